/-
  The law DnfDistributes, but for its sanity check.
-/
import Derived.Test.YtpgfpakdnijngaaGreatDoorTH
import Derived.Test.YtpgfpakdnijngaaGreatDoorTE
import Derived.Test.YtpgfpakdnijngaaGreatDoorW1
import Derived.Test.YtpgfpakdnijngaaGreatDoorTG
set_option linter.all false
namespace Go.Proofs.YtpgfpakdnijngaaGreatDoor
open Go.Tel
attribute [local simp] IJ Mx Jw Kh Dc Fk Ew wO setCells HM Df DQ CT DY alive DI KQ UI jG Hi JU Gk Ip L2 JV qD mC okB qE qH qI qJ qK iG qL qN qO qP qQ qR qT qU qV qW qX okF qY qZ qa qb qc Q0 qd Q1 Q2 Q3 Q4 qe qf qg qh qi qj qm qo qp qq GX qt mD qu qv qw qx qy rA rC rD rF rH CD
section
variable {R:RT}
theorem SU {a:AV} {rows:List (List PV)} (ha:A0 a rows):Ae (env R) 21 [a] λr=>r=.agg [AG 3,SS [],AG 0,a]:=by
 refine e21 (u0:=a) (by simp[ha.close]) (ASt ?_);simp[QP,QI,ha.ok,ha.cells,ha.close]
theorem AKf {t:Ty} (hn:MY R) (hsz:size t<2 ^ 60) (hok:RB t) (hfit:verdict t=0->Fit t):XOk R t (xR (depth t) t):=by
 rw[<-AQe (depth t) t λh=>(hfit h).bws];exact Vf hn (depth t) t (AY _) hsz hok hfit
theorem AKg {t:Ty} (h:gq 3 t=true) (hv:verdict t=0):Fit t:=by
 obtain⟨_,h1,h2⟩:=DX hv;have e:gqQ 3=⟨3150,1859359,630225,23403,27⟩:=AW;have:=AFm 3 t h h1 h2;rw[e] at this;exact⟨by have:=this.b; show(bw t:Int)<1073741824; simp only at this; omega,by have:=this.w; simp only at this; omega,by have:=this.n; simp only at this; omega⟩
end
theorem AKh {f:Nat} {t:Ty} (hfit:verdict t=0->Fit t):(xR f t).1.length<=32/\∀b∈(xR f t).1,BrS b:=by
 cases f with
 | zero=>exact⟨by simp[xR],λb h=>by cases h⟩
 | succ f=>
  rw[xR];cases hg:!(verdict t==0)||!(CB 0 t) with
  | true=>exact⟨AD,λb h=>by cases h⟩
  | false=>
   simp only[Gw,Bool.not_eq_false',Gx] at hg;obtain⟨TP,hc⟩:=hg;obtain⟨hv,AKi,_⟩:=DX TP;have hft:=hfit TP;simp only[AL];cases af:DK (Aa 32) (depth t) t with
   | none=>exact⟨AD,λb h=>by cases h⟩
   | some l=>
    simp only;cases (l.map EA).all λb=>Md b&&b.bounds.all λb=>Cs (xR f b) with
    | false=>exact⟨AD,λb h=>by cases h⟩
    | true=>
     refine⟨by have:=Ny (depth t) t l af; simp only[AN,Bt]; omega,λb hb=>?_⟩;obtain⟨b0,hb0,rfl⟩:=Cv.1 hb;obtain⟨_,q2,q3,q4⟩:=Ya hv hc hft af b0 hb0;exact⟨AA,AA,λc hc=>by have:=(q4 c hc).Ko; omega⟩
mutual
def ib:Bool->Ty->Bool
 | e,.mk k _ _ ts=>k==0||k==2||(bif k==5 then e else k==3&&ibL ts)
def ibL:List Ty->Bool
 | []=>true
 | t::l=>ib true t&&ibL l
end
theorem bC:∀l:List Ty,ibL l=l.all (ib true)
 | []=>rfl
 | t::l=>by rw[ibL,bC l]; rfl
section
variable {R:RT}
theorem W8 {α:Type} {row:α->List PV} (hrow:∀a,(row a).length=4) {f:FuncId} {g:α->Bool} {ts:List α} {y:AV} (hy:A0 y (ts.map row)) (hl:ts.length<2 ^ 60) (hf:∀t∈ts,Ae (env R) f [.agg ((row t).map .pv)] λr=>r=BB (g t)) :
  Ae (env R) 94 [y,.func (.func f) [] []] λr=>r=BB (ts.any g):=by
 have hf':∀t∈ts,∀s L,BG (env R) L f [.agg ((row t).map .pv)] s (BB (g t)) s:=by
  intro t ht s L;obtain⟨v,rfl,h⟩:=hf t ht;exact h L s
 have hi:Ae (env R) 125 [y,.func (.func f) [] []] λr=>∃i:Int,r=AG i/\decide (0<=i)=ts.any g:=by
  refine APJ (by simp[C7,hy.FR,FR]) (Zu (Au (n:=ts.length) (by rw[hy.BD,Bt]) ?_));exact fI hrow (.inl hy) hl (λt ht L=>hf' t ht _ L) ts.length 0 AA λi h=>⟨_,GX,i,rfl,AB⟩
 refine e94 (by simp[C7,hy.FR,FR]) (mE (AH hi ?_));rintro _ ⟨i,rfl,h⟩;exact L9 ⟨_,GX,AB⟩
mutual
theorem SV:∀(t:Ty),size t<2 ^ 60->∀(e:Bool) (x:AV),A8 t x->Ae (env R) 61 [x,BB e] λr=>r=BB (ib e t)
 | .mk k n i ts,h,e,x,hx=>by
  obtain⟨a,rfl,ha⟩:=hx;simp only[size] at h;have Sj:=BS ts;refine e61 (u0:=.agg [AG k,SS n,AG i,a]) (u1:=BB e) (by simp[ha.close]) (ASu ?_);refine Bu rfl (by simp[ha.ok]) (AM rfl (AX rfl rfl (Av ?_)));have fin:∀(b:Bool) s,b=ib e (.mk k n i ts)->QP (λr=>r=BB (ib e (.mk k n i ts))) (BB b) s:=λb s h=>⟨_,GX,by rw[h]⟩
  cases h0:k==0 with
  | true=>exact A1 (zk (A1 (fin _ _ (by simp[ib,h0]))))
  | false=>
   refine Ar (Av ?_);cases h2:k==2 with
   | true=>exact zk (A1 (fin _ _ (by simp[ib,h2])))
   | false=>
    refine zk (Ar (Av ?_));cases h5:k==5 with
    | true=>exact A1 (fin _ _ (by simp[ib,h0,h2,h5]))
    | false=>
     refine Ar (Av ?_);cases h3:k==3 with
     | false=>exact Ar (ASv (fin _ _ (by simp[ib,h0,h2,h5,h3])))
     | true=>
      refine A1 (AM rfl (AX rfl rfl ?_));rw[Hj] at ha;refine AH (W8 (g:=λt=>!ib true t) (λt=>Aj t) ha AA (Qb ts AA)) ?_;rintro _ rfl;refine nt (fin _ _ ?_);simp[ib,h0,h2,h5,h3,bC]
      grind
theorem Qb:∀(l:List Ty),Ac l<2 ^ 60->∀t∈l,Ae (env R) 102 [.agg ((Ah t).map .pv)] λr=>r=BB (!ib true t)
 | [],_,_,h=>by cases h
 | e::l,h,t,hm=>by
  simp only[Ac] at h;rcases A3.1 hm with h' | h'
  .rw[h']
   have hx:=A8.Bk e;have hrl:((Ah e).map AV.pv).length=4:=by grind[Aj]
   have hro:=Cx e
   have hno:C7 [.agg ((Ah e).map .pv)]=true:=by
    obtain⟨k1,n1,i1,t1⟩:=e;rfl
   generalize (Ah e).map AV.pv=row at hx hrl hro hno;refine AbC hno (AKj (Bu (cs:=row) rfl hro (Af (Az [] row) hrl (AH (SV e AA true _ hx) ?_))));rintro _ rfl;exact nt ⟨_,GX,rfl⟩
  .exact Qb l AA t h'
end
end
mutual
def Qc (g:Int->Ty):Bool->Ty->Ty
 | e,.mk k n i ts=>bif k==5 then g i else bif k==2||(k==3&&!e) then .mk k n i (Vw g (e||k==2) ts) else .mk k n i ts
def Vw (g:Int->Ty):Bool->List Ty->List Ty
 | _,[]=>[]
 | e,t::l=>Qc g e t::Vw g e l
end
theorem NN (g:Int->Ty) (e:Bool):∀l:List Ty,Vw g e l=l.map (Qc g e)
 | []=>rfl
 | t::l=>by rw[Vw,NN g e l]; rfl
mutual
theorem Oz:∀t:Ty,valid t=true->SJ t=true
 | .mk k n i ts,h=>by
  have hv:=h;simp only[valid,AI] at h;rw[SJ,SW ts h.2];cases h5:k==5 with
  | true=>
   have:k=5:=AB;subst this;have h1:=Eb hv;have h2:=LW hv
   grind
  | false=>rfl
theorem SW:∀l:List Ty,A9 l=true->QC l=true
 | [],_=>rfl
 | t::l,h=>by
  simp only[A9,AI] at h;rw[QC,Oz t h.1,SW l h.2];rfl
end
section
variable {R:RT}
def Has (bs:List (List AV)) (cp:List (Nat×List AV)):Prop:=∀q∈cp,bs[q.1]?=some q.2
theorem Has.push {bs:List (List AV)} {cp:List (Nat×List AV)} (h:Has bs cp) (c:List AV):Has (bs++[c]) cp:=λq hq=>Ap (h q hq) c
theorem Has.set {bs bs0:List (List AV)} {cp:List (Nat×List AV)} (h:Has bs cp) (h0:Has bs0 cp) {j:Nat} (hj:bs0.length<=j) (c:List AV):Has (bs.set j c) cp:=λq hq=>by
 have:=(BA.1 (h0 q hq)).1;exact BV (h q hq) AA
def RnF (R:RT) (f p:Nat) (cp:List (Nat×List AV)) (g:Int->Ty):Prop:=∀(i:Int) (y:AV) (s:AQ),0<=i->i<=200->A8 (.mk 5 [] i []) y->BP s->Has s.bs cp ->
 ∃r,A8 (g i) r/\∀L:BI,L.ro<=s.bs.length->BG (env R) L f [y,.ptr p 0] s r s
abbrev rnC (f p:Nat):AV:=.func (.func f) [] [.ptr p 0]
theorem ACx {f p:Nat} {cp:List (Nat×List AV)} {ts ls:List Ty} {a:AV} (ha:A0 a (AZ ts)) (hl:ts.length<2 ^ 38) (Sn:ls.length=ts.length) {k i:Int} {n:List UInt8} {e:Bool}
  {s0:AQ} (hs0:BP s0) (hp:Has s0.bs cp)
  (ih:∀(q:Nat) (t l:Ty),ts[q]?=some t->ls[q]?=some l->∀s,BP s->Has s.bs cp->∃r,A8 l r/\∀L,BG (env R) L 67 [.agg ((Ah t).map .pv),BB (e||k==2),rnC f p] s r s)
  {Post:AV->Prop} (hP:∀r,A8 (.mk k n i ls) r->Post r) :
  ∀(j q:Nat) (s:AQ) (b:AV),q+j=ts.length->BP s->Has s.bs cp->s.bs[s0.bs.length]?=some [AG k,SS n,AG i,a]->s.bs[s0.bs.length+1]?=some Z4->s.bs[s0.bs.length+2]?=some [AG k,SS n,AG i,b] ->
   Dn s0.ts.length s.ts 25 b (AZ (ls.take q))->s0.ts.length<=s.ts.length ->
   AF9 R s0.bs.length s0.bs.length s0.ts.length (BB e) (rnC f p) (.ptr s0.bs.length 0) (.ptr (s0.bs.length+1) 0) (.ptr (s0.bs.length+2) 0) a (AG ts.length) (AG q) s (QI s0.bs.length s0.ts.length Post):=by
 intro j
 induction j with
 | zero=>
  intro q s b hi hs h0 h1 h2 h3 hb hle;refine AGA (Ao ?_);rw[A2 AA];refine Ar (ASw (Af h3 rfl (Bn h2 rfl rfl AK AD (by simp[hb.A4.ok]) (.inl AD) (Af (BZ h2) rfl ?_))));rw[CV AA] at hb;obtain⟨b',c1,c2⟩:=MA hb (s.bs.set (s0.bs.length+1) [AG k,SS n,AG i,b]) s0.bs.length;exact⟨.agg [AG k,SS n,AG i,b'],by simp[c1],hP _ ⟨b',rfl,c2⟩⟩
 | succ j D9=>
  intro q s b hi hs h0 h1 h2 h3 hb hle;refine AGA (Ao ?_);rw[Aq AA];obtain⟨t,ht⟩:∃t,ts[q]?=some t:=⟨_,Ay AA⟩;obtain⟨l,wk⟩:∃l,ls[q]?=some l:=⟨_,Ay AA⟩;have hrl:((Ah t).map AV.pv).length=4:=by grind[Aj]
  have hro:=Cx t
  have Lz:Ag (s.bs.length+1) ((Ah t).map AV.pv)=true:=by
   obtain⟨k1,n1,i1,t1⟩:=t;rfl
  refine A1 (ASx (BR ha (row:=Ah t) AA (by simp[*,BL]) (Aj _) AA (Ce (Bm ?_))));have iI:=ih q t l ht wk;generalize (Ah t).map AV.pv=row at hrl hro Lz iI;obtain⟨bs,tk⟩:=s;have l3:=(BA.1 h3).1;simp only at *;refine Bn (Az bs Z4) hrl rfl AK (by simp[CT]; omega) hro (.inl (by simp[CT]; omega)) ?_;have e1:(bs++[Z4]).set bs.length row=bs++[row]:=AD;rw[e1];have g0:=h0.push row;have g1:=Ap h1 row;have g2:=Ap h2 row;have g3:=Ap h3 row;have hs':BP ⟨bs++[row],tk⟩:=BP.app (s:=⟨bs,tk⟩) hs Lz;obtain⟨r,WR,N4⟩:=iI ⟨bs++[row],tk⟩ hs' g0;refine AM (AU g3) (AX g3 rfl (Af (Az bs row) hrl ?_))
  have ASy:∀b' GJ,Dn s0.ts.length GJ 25 b' (AZ (ls.take (q+1)))->s0.ts.length<=GJ.length ->
    (DY ⟨bs++[row],GJ⟩ (.ptr (s0.bs.length+2) 0) 3 λa53=>HM (CT (env R) 67 s0.bs.length s0.bs.length s0.ts.length) ⟨bs++[row],GJ⟩ 1 a53 b' λoY=>
    (DY ⟨bs++[row],tk⟩ (.ptr (s0.bs.length+2) 0) 3 λv=>Tel.C1 v (.ptr (s0.bs.length+2) (0+3))=true) /\
    (Df (env R) ⟨bs++[row],tk⟩ none (.ptr (s0.bs.length+2) (0+3)) λAbE=>Tel.C1 AbE b=true) /\
    AGB R s0.bs.length s0.bs.length s0.ts.length (BB e) (rnC f p) (.ptr s0.bs.length 0) (.ptr (s0.bs.length+1) 0) (.ptr (s0.bs.length+2) 0) a (AG ts.length) (AG q) oY (QI s0.bs.length s0.ts.length Post)):=by
   intro b' GJ hb' hle';refine AM (AU g3) (C3 g3 AD hb'.A4.cells AD hb'.A4.ok (.inl AD) ⟨AM (AU g3) (DL _ _),AX g3 rfl (Gr hb),ASz (Be AA AA ?_)⟩);have:=D9 (q+1) ⟨(bs++[row]).set (s0.bs.length+2) [AG k,SS n,AG i,b'],GJ⟩ b' AA ?_ (g0.set hp AA _) (BV g1 AA) (BV g2 AA) (BZ g3) hb' hle'
   .grind
   .exact BP.set (s:=⟨bs++[row],tk⟩) hs' (by simp[Ag,Ax,hb'.A4.Ax]) _
  have er:ls.take q++[l]=ls.take (q+1):=by grind[List.take_add_one]
  have app:∀K:AV->AQ->Prop,(∀b' GJ,Dn s0.ts.length GJ 25 b' (AZ (ls.take (q+1)))->s0.ts.length<=GJ.length->K b' ⟨bs++[row],GJ⟩)->HB false (CT (env R) 67 s0.bs.length s0.bs.length s0.ts.length) ⟨bs++[row],tk⟩ 25 4 56 b (.AE [Ah l]) K:=λK hK=>
   mh hb hle AB λb' GJ hb' hle'=>hK b' GJ (by rw[er] at hb'; exact hb') hle'
  cases e with
  | true=>exact BQ (BQ (BQ (pk ⟨r,_,N4 _,Er WR.Fy ⟨AK,app _ ASy⟩⟩)))
  | false=>exact Ak (AM (AU g1) (Ak (AX g1 rfl (Ak (Av (pk ⟨r,_,N4 _,Er WR.Fy ⟨AK,app _ ASy⟩⟩))))))
mutual
theorem fV {f p:Nat} {cp:List (Nat×List AV)} {g:Int->Ty} (hf:RnF R f p cp g):∀(t:Ty),size t<2 ^ 38->valid t=true->∀(e:Bool) (x:AV),A8 t x->∀(s:AQ),BP s->Has s.bs cp ->
  ∃r,A8 (Qc g e t) r/\∀L,BG (env R) L 67 [x,BB e,rnC f p] s r s
 | .mk k n i ts,h,hv,e,x,hx,s,hs,hp=>by
  have VC:=Oz _ hv;have Lh:=hv;simp only[size] at h;simp only[valid,AI] at hv;have hx':=hx;obtain⟨a,rfl,ha⟩:=hx;have hs1:BP ⟨s.bs++[[AG k,SS n,AG i,a]]++[Z4],s.ts⟩:=BP.app (s:=⟨s.bs++[[AG k,SS n,AG i,a]],s.ts⟩) (BP.app (s:=s) hs (by simp[Ag,Ax,ha.Ax])) rfl;have g0:(s.bs++[[AG k,SS n,AG i,a]]++[Z4])[s.bs.length]?=some [AG k,SS n,AG i,a]:=Ap (Az _ _) _;have g1:(s.bs++[[AG k,SS n,AG i,a]]++[Z4])[s.bs.length+1]?=some Z4:=AB;have gp:Has (s.bs++[[AG k,SS n,AG i,a]]++[Z4]) cp:=(hp.push _).push _;have l1:(s.bs++[[AG k,SS n,AG i,a]]).length=s.bs.length+1:=AD;have l2:(s.bs++[[AG k,SS n,AG i,a]]++[Z4]).length=s.bs.length+2:=AD;refine i67 (by simp[C7,BK,close]) (AS0 (Bu (cs:=[AG k,SS n,AG i,a]) rfl (by simp[ha.ok]) (Bm ?_)));simp only[l1];generalize s.bs++[[AG k,SS n,AG i,a]]++[Z4]=bs at hs1 g0 g1 gp l2
  have fin:∀(t':Ty) (r:AV),A8 t' r->t'=Qc g e (.mk k n i ts)->HM (CT (env R) 67 s.bs.length s.bs.length s.ts.length) ⟨bs,s.ts⟩ 4 (.ptr (s.bs.length+1) 0) r λjr=>Df (env R) jr (some 4) (.ptr (s.bs.length+1) 0) λr=>QI s.bs.length s.ts.length (λr=>A8 (Qc g e (.mk k n i ts)) r) r jr:=by
   rintro t' r hr rfl;generalize Qc g e (.mk k n i ts)=t' at hr ⊢;obtain⟨k2,n2,i2,KS⟩:=t';have hr':=hr;obtain⟨b,rfl,hb⟩:=hr;refine Bn g1 rfl rfl AK AD (by simp[hb.ok]) (.inl AD) (Af (BZ g1) rfl ?_);exact⟨_,by simp[hb.close],hr'⟩
  refine AM (AU g0) (AX g0 rfl (Av ?_));cases h5:k==5 with
  | true=>
   have:k=5:=AB;subst this;have hi1:=LW Lh;obtain⟨rfl,rfl,uK⟩:=Eb Lh;obtain⟨r,WR,N4⟩:=hf i _ ⟨bs,s.ts⟩ uK hi1 hx' hs1 gp;exact A1 (Af g0 rfl ⟨_,_,N4 _ (by simp[CT]; omega),fin _ _ WR (by simp[Qc])⟩)
  | false=>
   refine Ar (AM (AU g0) (AX g0 rfl (EB ?_)));have Sj:=BS ts;have AKk:Ae (env R) 70 [.agg [AG k,SS n,AG i,a]] λr=>A8 (.mk k n i ts) r:=SK (t:=.mk k n i ts) (.of (by simp only[size]; omega)) (VC) ⟨a,rfl,ha⟩
   have stay:(k==2||(k==3&&!e))=false->Df (env R) ⟨bs,s.ts⟩ (some 4) (.ptr s.bs.length 0) λa29=>D0 (env R) (CT (env R) 67 s.bs.length s.bs.length s.ts.length) (.func (.func 70) [] []) [a29] ⟨bs,s.ts⟩ λa30 zl=>HM (CT (env R) 67 s.bs.length s.bs.length s.ts.length) zl 4 (.ptr (s.bs.length+1) 0) a30 λAGC=>Df (env R) AGC (some 4) (.ptr (s.bs.length+1) 0) λr=>QI s.bs.length s.ts.length (λr=>A8 (Qc g e (.mk k n i ts)) r) r AGC:=by
    intro hk;refine Af g0 rfl (AH AKk ?_);rintro r hr;exact fin _ r hr (by simp[Qc,h5,hk])
   have go:(k==2||(k==3&&!e))=true->AGD R s.bs.length s.bs.length s.ts.length (BB e) (rnC f p) (.ptr s.bs.length 0) (.ptr (s.bs.length+1) 0) ⟨bs,s.ts⟩ (QI s.bs.length s.ts.length (λr=>A8 (Qc g e (.mk k n i ts)) r)):=by
    intro hk;refine AS1 (Af g0 rfl (Bm (Bn (Az bs Z4) rfl rfl AK (by simp[CT]; omega) (by simp[ha.ok]) (.inl (by simp[CT]; omega)) ?_)));have e1:(bs++[Z4]).set bs.length [AG k,SS n,AG i,a]=bs++[[AG k,SS n,AG i,a]]:=AD;simp only[e1,l2];have g2:(bs++[[AG k,SS n,AG i,a]])[s.bs.length+2]?=some [AG k,SS n,AG i,a]:=AB
    show DY ⟨(bs++[Z4]).set (s.bs.length+2) [AG k,SS n,AG i,a],s.ts⟩ _ _ _
    have e1':(bs++[Z4]).set (s.bs.length+2) [AG k,SS n,AG i,a]=bs++[[AG k,SS n,AG i,a]]:=by rw[<-l2]; exact e1
    rw[e1'];refine AM (AU g2) (C3 (off:=3) g2 (AY 4) rfl (by simp[CT]) rfl (.inl (by simp[CT])) ?_);have e2:(bs++[[AG k,SS n,AG i,a]]).set (s.bs.length+2) ([AG k,SS n,AG i,a].set 3 (.AE []))=bs++[[AG k,SS n,AG i,.AE []]]:=AB
    show DY ⟨(bs++[[AG k,SS n,AG i,a]]).set (s.bs.length+2) ([AG k,SS n,AG i,a].set 3 (.AE [])),s.ts⟩ _ _ _
    rw[e2];have g3:(bs++[[AG k,SS n,AG i,.AE []]])[s.bs.length+2]?=some [AG k,SS n,AG i,.AE []]:=AB;refine AM (AU (Ap g0 _)) (AX (Ap g0 _) rfl (Au (n:=ts.length) (by rw[ha.BD,Ab]) ?_));refine ACx (ls:=ts.map (Qc g (e||k==2))) ha AA AD hs hp ?_ ?_ ts.length 0 _ (.AE []) AA (BP.app (s:=⟨bs,s.ts⟩) hs1 rfl) (gp.push _) (Ap g0 _) (Ap g1 _) g3 (.inl rfl) (AY _)
    .intro q t l hq wk s' hs' hp'
     rw[Fp,hq] at wk;cases wk;exact Yd hf ts AA hv.2 (e||k==2) t (A5 hq) s' hs' hp'
    .intro r hr
     rw[Qc,h5,hk,NN];exact hr
   cases h2:k==2 with
   | true=>
    have:(k != 2)=false:=by simp[bne,h2]
    rw[this];exact Bf (Bf (QJ (QJ (QJ (Bf (pk (Ar (go (by simp[h2])))))))))
   | false=>
    have:(k != 2)=true:=by simp[bne,h2]
    rw[this];refine Ak (Ak ?_);cases e with
    | true=>exact BQ (BQ (BQ (Ak (pk (pk (A1 (stay (by simp[h2]))))))))
    | false=>
     refine Ak (AM (AU g0) (Ak (AX g0 rfl (Ak (EB (Ak (pk (pk ?_))))))));cases h3:k==3 with
     | true=>
      have:(k != 3)=false:=by simp[bne,h3]
      rw[this];exact Ar (go (by simp[h3]))
     | false=>
      have:(k != 3)=true:=by simp[bne,h3]
      rw[this];exact A1 (stay (by simp[h2,h3]))
theorem Yd {f p:Nat} {cp:List (Nat×List AV)} {g:Int->Ty} (hf:RnF R f p cp g):∀(l:List Ty),Ac l<2 ^ 38->A9 l=true->∀(e:Bool),∀t∈l,∀(s:AQ),BP s->Has s.bs cp ->
  ∃r,A8 (Qc g e t) r/\∀L,BG (env R) L 67 [.agg ((Ah t).map .pv),BB e,rnC f p] s r s
 | [],_,_,_,_,h=>by cases h
 | u::l,h,hv,e,t,hm=>by
  simp only[Ac] at h;simp only[A9,AI] at hv;rcases A3.1 hm with h' | h'
  .rw[h']
   exact fV hf u AA hv.1 e _ (A8.Bk _)
  .exact Yd hf l AA hv.2 e t h'
end
end
def gP (N:Nat) (i:Int):Ty:=bif decide (i<N) then ren (ph i.toNat) else var i
def gQ (N:Nat) (i:Int):Ty:=bif decide (i<N) then ph i.toNat else var i
def MH (N:Nat) (t:Ty):Ty:=Qc (gQ N) false t
theorem zm (N:Nat) (t:Ty) (h:valid t=true):ren (MH N t)=Qc (gP N) false t:=by
 have gen:∀(m:Nat) (t:Ty) (e:Bool),depth t<=m->valid t=true->ren (Qc (gQ N) e t)=Qc (gP N) e t:=by
  intro m
  induction m with
  | zero=>
   intro t e hd;obtain⟨k,n,i,ts⟩:=t
   grind[depth]
  | succ m ih=>
   intro t e hd hv;obtain⟨k,n,i,ts⟩:=t;have Lh:=hv;simp only[valid,AI] at hv;rw[depth] at hd;rw[Qc,Qc];cases h5:k==5 with
   | true=>
    simp only[AN];unfold gQ gP;cases decide (i<N) with
    | true=>rfl
    | false=>rfl
   | false=>
    simp only[AL];cases h:(k==2||(k==3&&!e)) with
    | true=>
     have h7:k≠7:=AB;simp only[AN];rw[G2 _ _ _ _ h7,Bv,NN,NN,PB];congr 1;refine Y6 λt ht=>?_
     exact ih t _ (by have:=HQ ht; omega) (Bz hv.2 ht)
    | false=>grind[LX]
 exact gen _ t false (AY _) h
section
variable {R:RT}
theorem AKl (hn:MY R) {p e A6:Nat} {d:AV} {B:List Ty} (hd:BF d (AZ B)) (hB:B.length<2 ^ 37):RnF R 101 p [(p,[.ptr e 0]),(e,[d,AG A6])] (gP B.length):=by
 intro i y s h0 h1 hy hs hp;have gp:s.bs[p]?=some [.ptr e 0]:=hp (p,[.ptr e 0]) AD;have ge:s.bs[e]?=some [d,AG A6]:=hp (e,[d,AG A6]) AD;have lp:=(BA.1 gp).1;obtain⟨a,rfl,ha⟩:=hy
 have key:∀(gi:Ty) (cs:List AV),A8 gi (.agg cs)->(i<B.length->gi=ren (ph i.toNat)/\AV.agg cs=phA i.toNat)->(¬ i<B.length->gi=var i/\cs=[AG 5,SS [],AG i,a]) ->
   ∀L:BI,L.ro<=s.bs.length->BG (env R) L 101 [.agg [AG 5,SS [],AG i,a],.ptr p 0] s (.agg cs) s:=by
  intro gi cs hgi hlt hge L hro;obtain⟨c1,c2,c3,c4⟩:=hgi.cells
  obtain⟨v,s',⟨rfl,rfl⟩,hc⟩:=AbF (R:=R) (L:=L) (s:=s) (t0:=.agg [AG 5,SS [],AG i,a]) (t1:=.ptr p 0) (Post:=λv s'=>v=.agg cs/\s'=s) (by simp[C7,FR]) (AKm (by
   refine Bu (cs:=[AG 5,SS [],AG i,a]) rfl (by simp[ha.ok]) (Bm ?_);have l1:(s.bs++[[AG 5,SS [],AG i,a]]).length=s.bs.length+1:=AD;simp only[l1];have g0:(s.bs++[[AG 5,SS [],AG i,a]]++[Z4])[s.bs.length]?=some [AG 5,SS [],AG i,a]:=Ap (Az _ _) _;have g1:(s.bs++[[AG 5,SS [],AG i,a]]++[Z4])[s.bs.length+1]?=some Z4:=AB;have gq:=Ap (Ap gp [AG 5,SS [],AG i,a]) Z4;have gr:=Ap (Ap ge [AG 5,SS [],AG i,a]) Z4;have hT:(s.bs++[[AG 5,SS [],AG i,a]]++[Z4]).take s.bs.length=s.bs:=AD;generalize s.bs++[[AG 5,SS [],AG i,a]]++[Z4]=bs at g0 g1 gq gr hT;refine AM (AU g0) (AX g0 rfl (L9 ?_));rw[Aq AA];refine Ak (AM (AU g0) (Ak (AX g0 rfl (Ak (AX gq rfl (Ak (C2 (AU gr) (Ak (AM (AU gr) (Ak (AX (off:=0) gr rfl (Ak (Au (n:=B.length) (by rw[hd.BD,Ab]) (Ak (Ao (pk ?_))))))))))))))))
   by_cases hl:i<B.length
   .obtain⟨_,h2⟩:=hlt hl
    rw[Aq hl];have e1:i=((i.toNat:Nat):Int):=AA;refine A1 (AM (AU g0) (AX g0 rfl ?_))
    show D0 _ _ _ [AG i] _ _
    rw[e1];refine AH (LR hn i.toNat AA) ?_;rintro _ rfl;rw[<-h2];refine Bn g1 c1 rfl AK (by show L.ro<=_; omega) c2 (.inl (AO _)) (Af (BZ g1) c1 ?_)
    grind[aO,Cy]
   .obtain⟨_,h2⟩:=hge hl
    subst h2;rw[A2 hl];refine Ar (AKn (Af g0 rfl (Bn g1 rfl rfl AK (by show L.ro<=_; omega) AA (.inl (AO _)) (Af (BZ g1) rfl ?_))))
    grind[aO,Cy]))
  omega
 by_cases hl:i<B.length
 .have e:gP B.length i=ren (ph i.toNat):=by simp[gP,hl]
  rw[e];have hr:A8 (ren (ph i.toNat)) (phA i.toNat):=⟨.AE [],rfl,.AE _⟩
  grind
 .have e:gP B.length i=var i:=by simp[gP,hl]
  rw[e];have hr:A8 (var i) (.agg [AG 5,SS [],AG i,a]):=⟨a,rfl,ha⟩
  grind
theorem zn (hn:MY R) {e A6:Nat} {d:AV} {B:List Ty} (hd:BF d (AZ B)) (hB:B.length<2 ^ 37) {t:Ty} (hsz:size t<2 ^ 38) (hv:valid t=true) {x:AV} (hx:A8 t x) {s:AQ} (hs:BP s) (ge:s.bs[e]?=some [d,AG A6]) :
  ∃r,A8 (ren (MH B.length t)) r/\∀L:BI,L.ro<=s.bs.length->BG (env R) L 58 [.ptr e 0,x] s r s:=by
 have le:=(BA.1 ge).1;obtain⟨y,rfl⟩:=hx.Fy.agg;obtain⟨c1,c2,c3,c4⟩:=hx.cells
 have hs1:BP ⟨s.bs++[[AV.ptr e 0]]++[y]++[Z4],s.ts⟩:=by
  refine BP.app (s:=⟨s.bs++[[AV.ptr e 0]]++[y],s.ts⟩) (BP.app (s:=⟨s.bs++[[AV.ptr e 0]],s.ts⟩) (BP.app (s:=s) hs ?_) ?_) (b:=Z4) rfl
  .simp[Ag,Ax]
   omega
  .exact Bg (AO _) _ c3
 have gp:(s.bs++[[AV.ptr e 0]]++[y]++[Z4])[s.bs.length]?=some [.ptr e 0]:=Ap (Ap (Az _ _) _) _;have gy:(s.bs++[[AV.ptr e 0]]++[y]++[Z4])[s.bs.length+1]?=some y:=AB;have gz:(s.bs++[[AV.ptr e 0]]++[y]++[Z4])[s.bs.length+2]?=some Z4:=AB;have gE:(s.bs++[[AV.ptr e 0]]++[y]++[Z4])[e]?=some [d,AG A6]:=Ap (Ap (Ap ge [AV.ptr e 0]) y) Z4;have hT:(s.bs++[[AV.ptr e 0]]++[y]++[Z4]).take s.bs.length=s.bs:=AD;obtain⟨r,hr,QL⟩:=fV (AKl (R:=R) hn (p:=s.bs.length) (e:=e) (A6:=A6) hd hB) t hsz hv false (.agg y) hx ⟨s.bs++[[AV.ptr e 0]]++[y]++[Z4],s.ts⟩ hs1 (λq hq=>by grind);rw[<-zm _ _ hv] at hr;refine⟨r,hr,λL hro=>?_⟩;obtain⟨rc,rfl⟩:=hr.Fy.agg;obtain⟨d1,d2,d3,d4⟩:=hr.cells
 obtain⟨v,s',⟨rfl,rfl⟩,hc⟩:=m58 (R:=R) (L:=L) (s:=s) (t0:=.ptr e 0) (t1:=.agg y) (Post:=λv s'=>v=.agg rc/\s'=s) AR (AS2 (by
  refine Bu (cs:=[.ptr e 0]) rfl rfl (Bu (cs:=y) rfl c2 (Bm ?_));have l1:(s.bs++[[AV.ptr e 0]]).length=s.bs.length+1:=AD;have l2:(s.bs++[[AV.ptr e 0]]++[y]).length=s.bs.length+2:=AD;simp only[l1,l2];refine Af gy c1 ⟨_,_,QL _,Bn gz d1 rfl AK (by show L.ro<=_; omega) d2 (.inl (AO _)) (Af (BZ gz) d1 ?_)⟩
  grind[aO]))
 omega
end
theorem NP:∀{l m:List Int},l.Pairwise (·<·)->m.Pairwise (·<·)->(∀w,w∈l<->w∈m)->l=m
 | [],[],_,_,_=>rfl
 | [],b::m,_,_,h=>by
  have:=(h b).2 AD
  grind
 | a::l,[],_,_,h=>by
  have:=(h a).1 AD
  grind
 | a::l,b::m,hl,hm,h=>by
  rw[List.pairwise_cons] at hl hm
  have e:a=b:=by
   have h1:=(h a).1 AD;have h2:=(h b).2 AD
   grind
  subst e;congr 1;refine NP hl.2 hm.2 λw=>?_
  grind
def VB (X:Ty->List Br×Int) (b:Br):Prop:=ib false b.body=true/\verdict b.body=0/\Md b=true/\(∀v,v<b.bounds.length->Cw v true (MH b.bounds.length b.body)=true) /\
 (∀l:List Int,l.Pairwise (·<·)->(∀w,w∈l<->w∈Qj 0 b.body)->l.length=b.bounds.length)/\(K4 b.bounds.length (MH b.bounds.length b.body) []).1=b.body/\(b.bounds.all λt=>Cs (X t))=true
mutual
theorem Vx (N:Nat):∀t:Ty,valid t=true->GC N t=true
 | .mk k n i ts,h=>by
  have h7:(k==7)=false:=by grind[G8]
  have hnm:=MB h;simp only[valid,AI] at h;rw[GC,h7,SX N ts h.2,hnm.1,Aq hnm.2];rfl
theorem SX (N:Nat):∀l:List Ty,A9 l=true->Gg N l=true
 | [],_=>rfl
 | t::l,h=>by
  simp only[A9,AI] at h;rw[Gg,Vx N t h.1,SX N l h.2];rfl
end
theorem ACy {N:Nat}:∀(t:Ty) (e:Bool),valid t=true->GC N (Qc (gQ N) e t)=true:=by
 have gen:∀(m:Nat) (t:Ty) (e:Bool),depth t<=m->valid t=true->GC N (Qc (gQ N) e t)=true:=by
  intro m
  induction m with
  | zero=>
   intro t e hd;obtain⟨k,n,i,ts⟩:=t
   grind[depth]
  | succ m ih=>
   intro t e hd hv;obtain⟨k,n,i,ts⟩:=t;have Lh:=hv;have hnm:=MB hv;simp only[valid,AI] at hv;rw[depth] at hd;rw[Qc];cases h5:k==5 with
   | true=>
    have:k=5:=AB;subst this;obtain⟨_,_,h0⟩:=Eb Lh
    grind[gQ,GC,Gg]
   | false=>
    simp only[AL];have h7:(k==7)=false:=by grind[G8]
    cases h:(k==2||(k==3&&!e)) with
    | true=>
     have gl:∀l:List Ty,(∀t∈l,GC N t=true)->Gg N l=true:=by
      intro l
      induction l with
      | nil=>simp[Gg]
      | cons a l ihl=>grind[Gg]
     simp only[AN];rw[GC,h7,NN];simp only[AL,hnm.1,Aq hnm.2,PG,CY];refine gl _ λt ht=>?_
     obtain⟨u,hu,rfl⟩:=Cv.1 ht;exact ih u _ (by have:=HQ hu; omega) (Bz hv.2 hu)
    | false=>
     grind[Vx]
 exact λt e=>gen _ t e (AY _)
theorem zo {N:Nat}:∀(m:Nat) (t:Ty) (e:Bool),depth t<=m->size (Qc (gQ N) e t)<=size t:=by
 intro m
 induction m with
 | zero=>
  intro t e hd;obtain⟨k,n,i,ts⟩:=t
  grind[depth]
 | succ m ih=>
  intro t e hd;obtain⟨k,n,i,ts⟩:=t;rw[depth] at hd;rw[Qc];cases k==5 with
  | true=>
   grind[size,gQ,Ac]
  | false=>
   cases (k==2||(k==3&&!e)) with
   | false=>simp
   | true=>
    simp only[AL,AN,size]
    have:∀l:List Ty,(∀t∈l,size (Qc (gQ N) (e||k==2) t)<=size t)->Ac (Vw (gQ N) (e||k==2) l)<=Ac l:=by
     intro l
     induction l with
     | nil=>simp[Vw]
     | cons a l ihl=>grind[Vw,Ac]
    have:=this ts λt ht=>ih t _ (by have:=HQ ht; omega)
    omega
section
variable {R:RT}
theorem AS3 {k:Nat} {cs:List AV} {a:AV} {K:AV->Prop} (hk:cs.length=k) (h:K (.agg cs)):zq (some k) (.agg (a::cs)) 1 K:=by grind[zq,DQ]
theorem fW {t t':Ty} {x x':AV} (h:size t<2 ^ 38) (hx:BH t x) (hx':BH t' x'):Ae (env R) 63 [x,x'] λr=>∃b:Bool,r=BB b/\(b=true<->t=t'):=by
 obtain⟨x1,h1,h2⟩:=hx.closed [] 0;obtain⟨x2,h3,h4⟩:=hx'.closed [] 0;exact Ae.open (args':=[x1,x2]) AR AR rfl (by simp[*]) (by simp[BK,h2.G3,h4.G3]) (Va h h2 h4)
theorem Lf (hn:MY R) {X:Ty->List Br×Int} {b:Br} (hsz:size b.body<2 ^ 59) (hok:RB b.body) (hl:b.bounds.length<2 ^ 30) (hb:∀t∈b.bounds,(Cs (X t)=true->size t<2 ^ 38)/\shT t/\SJ t=true) (hX:∀t∈b.bounds,XOk R t (X t)) {x:AV} (hx:N5 b x) :
  Ae (env R) 27 [x] λr=>∃v:Bool,r=BB v/\(v=true<->VB X b):=by
 have hx':=hx;obtain⟨a,y,rfl,ha,hy⟩:=hx;obtain⟨y1,y2,y3,y4⟩:=hy.cells;refine e27 (u0:=.agg (a::y)) (by simp[ha.close,y4]) (AS4 ?_);have AKo:(a::y).all A7=true:=by simp[ha.ok,y2]
 have hlen:∀s,BD s a=some b.bounds.length:=λs=>by rw[ha.BD,Ab]
 have no:¬ VB X b->∀s,QP (λr=>∃v:Bool,r=BB v/\(v=true<->VB X b)) (BB false) s:=λh s=>⟨_,GX,false,rfl,AB⟩
 refine Bu (cs:=a::y) rfl AKo (AM rfl (Hp (a:=a) (cs:=y) rfl y1 (AH (SV b.body AA false _ hy) ?_)));rintro _ rfl;refine nt ?_;cases hib:ib false b.body with
 | false=>
  exact BQ (BQ (BQ (BQ (pk (BQ (BQ (BQ (pk (A1 (no (λh=>by rw[h.1] at hib; grind) _))))))))))
 | true=>
  refine Ak (b:=false) (AM rfl (Ak (b:=false) (Hp (a:=a) (cs:=y) rfl y1 (Ak (b:=false) (AH (OI AA hok hy) ?_)))));rintro _ rfl;refine Ak (b:=false) (EB (pk ?_));cases tR:verdict b.body==0 with
  | false=>
   have:(verdict b.body != 0)=true:=AB;rw[this];exact BQ (BQ (BQ (pk (A1 (no (λh=>by have:=h.2.1; grind) _)))))
  | true=>
   have:(verdict b.body != 0)=false:=AB;rw[this];have zu:verdict b.body=0:=AB;obtain⟨hv,AKi,_⟩:=DX zu;have hcv:=Gc b.body;have hsz:size b.body<2 ^ 38:=AA;refine Ak (b:=false) (Af (cs:=a::y) rfl AB (Ak (b:=false) (AH (Kk hsz AA AA hx') ?_)));rintro _ rfl;refine Ak (b:=false) (nt (pk ?_));cases iw:Md b with
   | false=>
    have:(decide (b.bounds.length<=6)&&decide ((Al b.body).length<=3))=false:=iw;rw[this];exact A1 (no (λh=>by rw[h.2.2.1] at iw; grind) _)
   | true=>
    have:(decide (b.bounds.length<=6)&&decide ((Al b.body).length<=3))=true:=iw;rw[this];refine Ar (AS5 (AM rfl (AX rfl rfl (HO (cs:=[a,AG 0]) (by simp[Ew,ha.cells,ha.ok,setCells]) (Bu (cs:=[a,AG 0]) rfl H8 (AM rfl (Hp (a:=a) (cs:=y) rfl y1 ?_)))))))
    have hs1:BP ⟨[a::y,[a,AG 0]],[]⟩:=by
     intro c hc;simp only[A3,D4,D5] at hc;rcases hc with rfl|rfl
     .exact Bg (AO _) _ (by simp[Ag,ha.Ax,y3])
     .simp[Ag,Ax,ha.Ax]
    obtain⟨r,hr,QL⟩:=zn (R:=R) hn (e:=1) (A6:=0) (.inl ha) AA hsz hv hy hs1 rfl;refine⟨_,_,QL _ (AO _),?_⟩;obtain⟨rc,rfl⟩:=hr.Fy.agg;obtain⟨c1,c2,c3,c4⟩:=hr.cells;refine Bm (Bn (old:=Z4) rfl c1 rfl AK (AO _) c2 (.inl (AO _)) (AM rfl (AX rfl rfl (Au (hlen _) ?_))));have hs2:∀ts,BP ⟨[a::y,[a,AG 0],rc],ts⟩:=λts=>BP.app (s:=⟨[a::y,[a,AG 0]],ts⟩) hs1 (Bg (AO _) _ c3)
    have VE:=ACy (N:=b.bounds.length) b.body false hv;have hps:size (MH b.bounds.length b.body)<=size b.body:=zo _ b.body false (AY _);have AS6:b.bounds.length<=2 ^ 40:=AA
    have last:(∀v,v<b.bounds.length->Cw v true (MH b.bounds.length b.body)=true)->AGE R 0 0 0 (.ptr 0 0) (.ptr 1 0) (.ptr 2 0) ⟨[a::y,[a,AG 0],rc],[]⟩ (QP λr=>∃v:Bool,r=BB v/\(v=true<->VB X b)):=by
     intro Z1;refine AS7 (AM rfl (Hp (a:=a) (cs:=y) rfl y1 (AH (OK AA (RV _ hv) hy) ?_)));rintro v ⟨l,ZR,Sd,iV⟩;refine Au (n:=l.length) (by rw[ZR.BD,BU]) (AM rfl (AX rfl rfl (Au (hlen _) (Av ?_))));have KX:Tel.C1 a a=true:=BF.C1 (es:=b.bounds) (.inl ha);have g0:∀ts,(AQ.mk [a::y,[a,AG 0],rc] ts).bs[0]?=some (a::y):=λts=>rfl
     have agg:∀(K:Prop),K->(DY ⟨[a::y,[a,AG 0],rc],[]⟩ (.ptr 0 0) 0 λv=>Tel.C1 v (.ptr 0 (0+0))=true)/\(Df (env R) ⟨[a::y,[a,AG 0],rc],[]⟩ none (.ptr 0 (0+0)) λv=>Tel.C1 v a=true)/\(Gk ⟨[a::y,[a,AG 0],rc],[]⟩ a λv=>Tel.C1 v (AG b.bounds.length)=true)/\K:=λK hK=>
      ⟨AM (AU (g0 _)) (DL _ _),AX (off:=0) (g0 _) rfl KX,Au (hlen _) (by simp[Tel.C1,Ni,Fa]),hK⟩
     have AGF:(∀l:List Int,l.Pairwise (·<·)->(∀w,w∈l<->w∈Qj 0 b.body)->l.length=b.bounds.length)<->l.length=b.bounds.length:=by grind[NP]
     cases hlN:((l.length:Int)==(b.bounds.length:Int)) with
     | false=>
      refine Bf (Bf (Bf (Bf (Bf (Bf (Bf (pk (Bf (Bf (Bf (pk (agg _ ⟨Bf rfl,Bf rfl,?_⟩))))))))))));refine no (λh=>?_) _;have:=AGF.1 h.2.2.2.2.1
      grind
     | true=>
      have AbG:l.length=b.bounds.length:=AB;obtain⟨v,s',⟨ts',af,_,rfl⟩,hc⟩:=SL (R:=R) hn (e:=1) AS6 (λt ht=>(hb t ht).2) (p:=MH b.bounds.length b.body) AA VE hr (hs2 []) (d:=a) (dr:=[AG 0]) rfl (.inl ha) (L:=CT (env R) 27 0 0 0) rfl rfl;obtain⟨a1,z,rfl,hz1,hz2⟩:=af;obtain⟨w1,w2,w3⟩:=hz2.cells;refine Ak (Ak (Af (cs:=rc) rfl c1 (Ak ⟨_,_,hc,Ak (AS3 w1 (Ak (AM rfl (Ak (Hp (a:=a) (cs:=y) rfl y1 (Ak (AH (fW ?_ hz2 hy.Fy) ?_)))))))⟩)))
      .grind[eT]
      rintro _ ⟨e,rfl,he⟩;have he':e=true<->(K4 b.bounds.length (MH b.bounds.length b.body) []).1=b.body:=he;cases e with
      | false=>
       refine pk (Bf (Bf (Bf (pk (agg _ ⟨Ak (AM (AU (g0 [])) (DL _ _)),Ak (Hp (g0 []) y1 (Ho hy.Fy)),?_⟩)))));refine no (λh=>?_) _;have:=he'.2 h.2.2.2.2.2.1
       grind
      | true=>
       refine pk (Ak (AM rfl (Ak (AX rfl rfl (Ak (AH (La ha hl (λt ht=>(hb t ht).1) hX) ?_))))));rintro _ rfl;refine pk (agg _ ⟨Ak (AM (AU (g0 [])) (DL _ _)),Ak (Hp (g0 []) y1 (Ho hy.Fy)),?_⟩);refine⟨_,GX,_,rfl,?_⟩;refine⟨λh=>⟨hib,zu,iw,Z1,AGF.2 AbG,he'.1 rfl,h⟩,λh=>h.2.2.2.2.2.2⟩
    have loop:∀(j q:Nat),q+j=b.bounds.length->(∀v,v<q->Cw v true (MH b.bounds.length b.body)=true)->AGG R 0 0 0 (.ptr 0 0) (.ptr 1 0) (.ptr 2 0) (AG b.bounds.length) (AG q) ⟨[a::y,[a,AG 0],rc],[]⟩ (QP λr=>∃v:Bool,r=BB v/\(v=true<->VB X b)):=by
     intro j
     induction j with
     | zero=>
      have q0:=@AGH
      grind[Ao,Ar]
     | succ j ih=>
      intro q hi hq;refine AGH (Ao ?_);rw[Aq AA];refine A1 (AS8 (Af (cs:=rc) rfl c1 (AH (M6 hn AS6 q (MH b.bounds.length b.body) true AA VE _ hr) ?_)));rintro _ rfl;refine nt ?_;cases ho:Cw q true (MH b.bounds.length b.body) with
      | false=>exact A1 (no (λh=>by have:=h.2.2.2.1 q AA; grind) _)
      | true=>
       refine Ar (AS9 (Be AA AA (ih (q+1) AA λv hv=>?_)))
       grind
    exact loop b.bounds.length 0 AA λv hv=>by omega
end
mutual
def fl:Ty->Bool
 | .mk k n i ts=>k==0||k==2||k==7||(k==3&&n==[]&&i==0&&flL ts)
def flL:List Ty->Bool
 | []=>true
 | t::l=>fl t&&flL l
end
def nOk (n:List UInt8) (i:Int) (ts:List Ty):Bool:=i==0&&(M0 n&&(!MX.contains n&&decide (ts.length<=6)))
mutual
def wP:Ty->Bool
 | .mk k n i ts=>bif k==5 then n==[]&&ts.isEmpty else bif k==2 then nOk n i ts&&WT ts else Sl (.mk k n i ts)
def WT:List Ty->Bool
 | []=>true
 | t::l=>wP t&&WT l
end
mutual
def wB:Ty->Bool
 | .mk k n i ts=>bif k==5 then n==[]&&ts.isEmpty else bif k==0 then n==[]&&(i==0&&ts.isEmpty) else bif k==2 then nOk n i ts&&WT ts else k==3&&(n==[]&&(i==0&&(decide (ts.length<=6)&&Me ts)))
def Me:List Ty->Bool
 | []=>true
 | t::l=>wB t&&Me l
end
structure Ms where
 c:List Nat->Nat
 nm:Ty->Nat
 mono:∀l m,CE (·<=·) l m->c l<=c m
 map:∀(g:Int->Int) (n:List UInt8) (i:Int) (ts:List Ty),WT ts=true->nm (.mk 2 n i (Bq (λi=>var (g i)) ts))=nm (.mk 2 n i ts)
mutual
def wz (M:Ms) (ω:Int->Nat):Ty->Nat
 | .mk k n i ts=>bif k==5 then ω i else bif k==3 then M.c (W9 M ω ts) else M.nm (.mk k n i ts)
def W9 (M:Ms) (ω:Int->Nat):List Ty->List Nat
 | []=>[]
 | t::l=>wz M ω t::W9 M ω l
end
mutual
theorem Nz (M:Ms) {ω ω':Int->Nat} (h:∀i,ω i<=ω' i):∀t:Ty,wz M ω t<=wz M ω' t
 | .mk k n i ts=>by
  have:=fX M h ts;rw[wz,wz];cases k==5 with
  | true=>grind
  | false=>
   cases k==3 with
   | true=>exact M.mono _ _ this
   | false=>simp
theorem fX (M:Ms) {ω ω':Int->Nat} (h:∀i,ω i<=ω' i):∀l:List Ty,CE (·<=·) (W9 M ω l) (W9 M ω' l)
 | []=>trivial
 | t::l=>⟨Nz M h t,fX M h l⟩
end
mutual
theorem MI (M:Ms) (ω:Int->Nat) (g:Int->Int):∀t:Ty,wB t=true->wz M ω (Bh (λi=>var (g i)) t)=wz M (λi=>ω (g i)) t
 | .mk k n i ts,hw=>by
  rw[wB] at hw;rw[Bh,wz];cases h5:k==5 with
  | true=>rfl
  | false=>
   rw[h5] at hw;cases h3:k==3 with
   | true=>
    have h0:(k==0)=false:=AB;have h2:(k==2)=false:=AB;rw[h0,h2,h3] at hw;simp only[AL,CY,AI] at hw;simp only[AL,AN,Du,wz,h5,h3,oZ M ω g ts hw.2.2.2]
   | false=>
    cases h2:k==2 with
    | true=>
     have:k=2:=AB;subst this;simp only[show((2:Int)==0)=false from rfl,CZ,AL,AN,AI] at hw;simp only[AL,AN,Dv,wz,h5,h3];exact M.map g n i ts hw.2
    | false=>grind[wz]
theorem oZ (M:Ms) (ω:Int->Nat) (g:Int->Int):∀l:List Ty,Me l=true->W9 M ω (Bq (λi=>var (g i)) l)=W9 M (λi=>ω (g i)) l
 | [],_=>rfl
 | t::l,h=>by
  simp only[Me,AI] at h;rw[Bq,W9,W9,MI M ω g t h.1,oZ M ω g l h.2]
end
theorem Ye:∀l:List Nat,CE (·<=·) l l
 | []=>trivial
 | _::l=>⟨AY _,Ye l⟩
mutual
theorem AGI (M:Ms) {ω:Int->Nat} {c:Ty} {w:Int} (hc:wz M ω c<=ω w):∀(b:Ty) (k:Nat),(Al b)[k]?=some w->wz M ω (M3 c b k)<=wz M ω b
 | .mk k n i ts,j,h=>by
  rw[Al] at h;rw[M3];cases h5:k==5 with
  | true=>
   grind[wz]
  | false=>
   rw[h5] at h;cases h3:k==3 with
   | true=>
    rw[h3] at h;simp only[AL,AN] at h ⊢;rw[wz,wz,h5,h3];exact M.mono _ _ (zw M hc ts j h)
   | false=>simp
theorem zw (M:Ms) {ω:Int->Nat} {c:Ty} {w:Int} (hc:wz M ω c<=ω w):∀(l:List Ty) (k:Nat),(Bs l)[k]?=some w->CE (·<=·) (W9 M ω (HU c l k)) (W9 M ω l)
 | [],_,h=>by grind[Bs]
 | t::l,k,h=>by
  rw[Bs] at h;rw[HU]
  by_cases hk:k<(Al t).length
  .rw[CX hk] at h
   rw[Aq hk];exact⟨AGI M hc t k h,Ye _⟩
  .rw[Ey AA] at h
   rw[A2 hk];exact⟨AY _,zw M hc l _ h⟩
end
theorem oa (M:Ms) (ω:Int->Nat):∀l m:List Ty,W9 M ω (l++m)=W9 M ω l++W9 M ω m
 | [],_=>rfl
 | t::l,m=>by rw[DD,W9,W9,oa M ω l m]; rfl
theorem zx {i:Int} {n:List UInt8} {ts:List Ty} (h:root 2 n i ts=true):nOk n i ts=true/\EX ts=true:=by grind[root,shape,nOk]
mutual
theorem zy:∀t:Ty,valid t=true->plain t=true->wP t=true
 | .mk k n i ts,h,hp=>by
  have h':=h;simp only[valid,AI] at h;rw[wP];cases h5:k==5 with
  | true=>
   have:k=5:=AB;subst this;obtain⟨rfl,rfl,_⟩:=Eb h';rfl
  | false=>
   cases h2:k==2 with
   | true=>
    have:k=2:=AB;subst this;obtain⟨r1,r2⟩:=zx h.1;simp only[AL,AN,r1,CY];exact N0 ts h.2 r2
   | false=>
    grind[plain,Sl]
theorem N0:∀l:List Ty,A9 l=true->EX l=true->WT l=true
 | [],_,_=>rfl
 | t::l,h,hp=>by
  simp only[A9,AI] at h;simp only[EX,AI] at hp;rw[WT,zy t h.1 hp.1,N0 l h.2 hp.2];rfl
end
theorem Ri (f:Int->Ty):∀l:List Ty,(Bq f l).length=l.length
 | []=>rfl
 | t::l=>by rw[Bq,B4,B4,Ri f l]
theorem od {n:List UInt8} {i:Int} {ts:List Ty} (f:Int->Ty):nOk n i (Bq f ts)=nOk n i ts:=by grind[nOk,Ri]
mutual
theorem AKp (g:Int->Int):∀t:Ty,wP t=true->wP (Bh (λi=>var (g i)) t)=true
 | .mk k n i ts,h=>by
  rw[wP] at h;rw[Bh];cases h5:k==5 with
  | true=>rfl
  | false=>
   rw[h5] at h;cases h2:k==2 with
   | true=>
    rw[h2] at h;simp only[AL,AN,AI] at h;simp only[AL,AN,Dv,wP,h5,h2,od,h.1,bD g ts h.2,Ft]
   | false=>
    rw[h2] at h;simp only[AL] at h;have:=Ie _ (λi=>var (g i)) h
    grind[Bh,wP]
theorem bD (g:Int->Int):∀l:List Ty,WT l=true->WT (Bq (λi=>var (g i)) l)=true
 | [],_=>rfl
 | t::l,h=>by
  simp only[WT,AI] at h;rw[Bq,WT,AKp g t h.1,bD g l h.2];rfl
end
mutual
theorem O0 (g:Int->Int):∀t:Ty,wB t=true->wB (Bh (λi=>var (g i)) t)=true
 | .mk k n i ts,h=>by
  rw[wB] at h;rw[Bh];cases h5:k==5 with
  | true=>rfl
  | false=>
   rw[h5] at h;cases h2:k==2 with
   | true=>
    simp_all[wB,od,bD]
   | false=>
    cases h3:k==3 with
    | true=>
     have h0:(k==0)=false:=AB;rw[h2,h0,h3] at h;simp only[AL,CY,AI] at h;simp only[AL,AN,Du,wB,h5,h2,h0,h3,CY,Ri,h.1,h.2.1,h.2.2.1,og g ts h.2.2.2,Ft]
    | false=>
     grind[wB]
theorem og (g:Int->Int):∀l:List Ty,Me l=true->Me (Bq (λi=>var (g i)) l)=true
 | [],_=>rfl
 | t::l,h=>by
  simp only[Me,AI] at h;rw[Bq,Me,O0 g t h.1,og g l h.2];rfl
end
theorem fY (c:Ty):∀(l:List Ty) (k:Nat),(HU c l k).length=l.length
 | [],_=>rfl
 | t::l,k=>by
  rw[HU];cases decide (k<(Al t).length) with
  | true=>rfl
  | false=>simp only[AL,B4,fY c l _]
mutual
theorem AGJ {c:Ty} (hc:wB c=true):∀(b:Ty) (k:Nat),wB b=true->wB (M3 c b k)=true
 | .mk k n i ts,j,h=>by
  have h':=h;rw[wB] at h;rw[M3];cases h5:k==5 with
  | true=>grind
  | false=>
   cases h3:k==3 with
   | true=>
    have h0:(k==0)=false:=AB;have h2:(k==2)=false:=AB;rw[h5,h2,h0,h3] at h;simp only[AL,CY,AI] at h;simp only[AL,AN,wB,h5,h2,h0,h3,CY,fY,h.1,h.2.1,h.2.2.1,z6 hc ts j h.2.2.2,Ft]
   | false=>grind
theorem z6 {c:Ty} (hc:wB c=true):∀(l:List Ty) (k:Nat),Me l=true->Me (HU c l k)=true
 | [],_,_=>rfl
 | t::l,k,h=>by
  simp only[Me,AI] at h;rw[HU];cases decide (k<(Al t).length) with
  | true=>simp only[AN,Me,AGJ hc t k h.1,h.2,Ft]
  | false=>simp only[AL,Me,z6 hc l _ h.2,h.1,Ft]
end
theorem oh:∀l m:List Ty,Me (l++m)=(Me l&&Me m)
 | [],_=>by rfl
 | t::l,m=>by rw[DD,Me,Me,oh l m,Lo]
mutual
theorem ATA:∀t:Ty,wP t=true->pl t=true
 | .mk k n i ts,h=>by
  rw[wP] at h;rw[pl];cases h5:k==5 with
  | true=>grind
  | false=>
   rw[h5] at h;cases h2:k==2 with
   | true=>
    rw[h2] at h;simp only[AL,AN,AI] at h;exact kQ ts h.2
   | false=>grind
theorem kQ:∀l:List Ty,WT l=true->Wr l=true
 | [],_=>rfl
 | t::l,h=>by
  simp only[WT,AI] at h;rw[Wr,ATA t h.1,kQ l h.2];rfl
end
mutual
theorem OM:∀t:Ty,wB t=true->bd t=true
 | .mk k n i ts,h=>by
  rw[wB] at h;rw[bd];cases h5:k==5 with
  | true=>grind
  | false=>
   rw[h5] at h;cases h2:k==2 with
   | true=>
    grind[kQ]
   | false=>
    cases h3:k==3 with
    | true=>
     have h0:(k==0)=false:=AB;rw[h2,h0,h3] at h;simp only[AL,CY,AI] at h;exact z7 ts h.2.2.2
    | false=>
     rw[h2,h3] at h;cases h0:k==0 with
     | true=>
      have:k=0:=AB;subst this;simp only[h0,AL,AN,AI,Gx,GN] at h;obtain⟨rfl,rfl,rfl⟩:=h;rfl
     | false=>grind
theorem z7:∀l:List Ty,Me l=true->M4 l=true
 | [],_=>rfl
 | t::l,h=>by
  simp only[Me,AI] at h;rw[M4,OM t h.1,z7 l h.2];rfl
end
mutual
theorem oo (p:Int->Bool) (c:Ty):∀(b:Ty) (k:Nat),oI p b=true->oI p (M3 c b k)=true
 | .mk k n i ts,j,h=>by
  have h':=h;rw[oI] at h;rw[M3];cases h5:k==5 with
  | true=>
   grind
  | false=>
   cases h3:k==3 with
   | true=>
    have h2:(k==2)=false:=AB;rw[h2,h3] at h;simp only[AL,CY] at h;simp only[AL,AN,oI,h2,h3,CY,fZ p c ts j h]
   | false=>grind
theorem fZ (p:Int->Bool) (c:Ty):∀(l:List Ty) (k:Nat),KJ p l=true->KJ p (HU c l k)=true
 | [],_,h=>by cases h
 | t::l,k,h=>by
  rw[KJ] at h;rw[HU];rcases PK.1 h with h|h
  .cases decide (k<(Al t).length) with
   | true=>simp only[AN,KJ,oo p c t k h,Dv]
   | false=>grind[KJ]
  .cases decide (k<(Al t).length) with
   | true=>grind[KJ]
   | false=>simp only[AL,KJ,fZ p c l _ h,Du]
end
mutual
theorem z8 (p:Int->Bool) {c:Ty} (hc:oI p c=true):∀(b:Ty) (k:Nat),k<(Al b).length->oI p (M3 c b k)=true
 | .mk k n i ts,j,h=>by
  rw[Al] at h;rw[M3];cases h5:k==5 with
  | true=>
   grind
  | false=>
   rw[h5] at h;cases h3:k==3 with
   | true=>
    have h2:(k==2)=false:=AB;rw[h3] at h;simp only[AL,AN] at h;simp only[AL,AN,oI,h2,h3,CY,oq p hc ts j h]
   | false=>grind
theorem oq (p:Int->Bool) {c:Ty} (hc:oI p c=true):∀(l:List Ty) (k:Nat),k<(Bs l).length->KJ p (HU c l k)=true
 | [],k,h=>by grind[Bs]
 | t::l,k,h=>by
  rw[Bs,Bo] at h;rw[HU]
  by_cases hk:k<(Al t).length
  .rw[Aq hk]
   simp only[AN,KJ,z8 p hc t k hk,Dv]
  .rw[A2 hk]
   simp only[AL,KJ,oq p hc l (k-(Al t).length) AA,Du]
end
theorem ou (p:Int->Bool):∀l m:List Ty,KJ p (l++m)=(KJ p l||KJ p m)
 | [],_=>by rfl
 | t::l,m=>by rw[DD,KJ,KJ,ou p l m,Bool.or_assoc]
def om (U:List Nat) (i:Int):Nat:=bif decide (0<=i) then 1 else U.getD (-1-i).toNat 1
def tq (U:List Nat) (w:Nat) (i:Int):Nat:=bif i==hole then w else om U i
def mx:List Nat->Nat
 | []=>0
 | a::l=>max a (mx l)
theorem AGK {a:Nat}:∀{l:List Nat},a∈l->a<=mx l
 | b::l,h=>by
  rw[mx];rcases A3.1 h with rfl|h
  .omega
  .have:=AGK h
   omega
mutual
def sz (M:Ms):Ty->List Nat->Nat
 | .mk k n i ts,U=>bif k==5 then U.getD i.toNat 1 else bif k==3 then M.c (szl M ts U) else bif k==4 then mx (szl M ts U) else bif k==6 then szx M ts U else M.nm (.mk k n i ts)
def szl (M:Ms):List Ty->List Nat->List Nat
 | [],_=>[]
 | t::l,U=>sz M t U::szl M l U
def szx (M:Ms):List Ty->List Nat->Nat
 | [],_=>0
 | b::l,U=>szh M l (max 1 (sz M b [])::U)
def szh (M:Ms):List Ty->List Nat->Nat
 | [],_=>0
 | t::_,U=>sz M t U
end
theorem Qd (M:Ms) (U:List Nat):∀l:List Ty,szl M l U=l.map λt=>sz M t U
 | []=>rfl
 | t::l=>by rw[szl,Qd M U l]; rfl
mutual
theorem bE (M:Ms):∀(t:Ty) (U σ τ:List Nat),valid t=true->CB U.length t=true->sz M t (U++σ)=sz M t (U++τ)
 | .mk k n i ts,U,σ,τ,hv,hc=>by
  have Lh:=hv;simp only[valid,AI] at hv;rw[sz,sz];cases h5:k==5 with
  | true=>
   have:k=5:=AB;subst this;obtain⟨rfl,rfl,h0⟩:=Eb Lh
   grind[CB]
  | false=>
   have E6:=Dd hc AB;simp only[AL];cases h6:k==6 with
   | true=>
    have:k=6:=AB;subst this;rcases Ki hv.1 with h|h|h|h|h|h|⟨_,_,_,b,body,rfl,hcb⟩
    iterate 6 exact absurd h AD
    simp only[A9,AI] at hv;simp only[EF,AI] at E6;have hcy:CB (max 1 (sz M b [])::U).length body=true:=E6.2.1;have:=bE M body (max 1 (sz M b [])::U) σ τ hv.2.2.1 hcy;exact this
   | false=>
    have h6':k≠6:=AB;have:=fc M ts U σ τ hv.2 (λt ht=>Fj h6' E6 ht)
    grind
theorem fc (M:Ms):∀(l:List Ty) (U σ τ:List Nat),A9 l=true->(∀t∈l,CB U.length t=true)->szl M l (U++σ)=szl M l (U++τ)
 | [],_,_,_,_,_=>rfl
 | t::l,U,σ,τ,hv,hc=>by
  simp only[A9,AI] at hv;rw[szl,szl,bE M t U σ τ hv.1 (hc t AD),fc M l U σ τ hv.2 λu hu=>hc u AB]
end
mutual
theorem Vy (M:Ms) {ω ω':Int->Nat}:∀t:Ty,(∀i∈Al t,ω i<=ω' i)->wz M ω t<=wz M ω' t
 | .mk k n i ts,h=>by
  rw[Al] at h;rw[wz,wz];cases h5:k==5 with
  | true=>grind
  | false=>
   rw[h5] at h;cases h3:k==3 with
   | true=>rw[h3] at h; exact M.mono _ _ (Yf M ts h)
   | false=>simp
theorem Yf (M:Ms) {ω ω':Int->Nat}:∀l:List Ty,(∀i∈Bs l,ω i<=ω' i)->CE (·<=·) (W9 M ω l) (W9 M ω' l)
 | [],_=>trivial
 | t::l,h=>by
  rw[Bs] at h;exact⟨Vy M t λi hi=>h i AB,Yf M l λi hi=>h i AB⟩
end
mutual
theorem ow {p q:Int->Bool} (h:∀i,p i=true->q i=true):∀t:Ty,oA p t=true->oA q t=true
 | .mk k n i ts,ht=>by
  rw[oA] at ht ⊢;cases h5:k==5 with
  | true=>grind
  | false=>
   rw[h5] at ht;simp only[AL,AI] at ht ⊢;exact⟨ht.1,fe h ts ht.2⟩
theorem fe {p q:Int->Bool} (h:∀i,p i=true->q i=true):∀l:List Ty,UZ p l=true->UZ q l=true
 | [],hl=>by cases hl
 | t::l,hl=>by
  rw[UZ] at hl ⊢;rcases PK.1 hl with hl|hl
  .rw[ow h t hl,Dv]
  .rw[fe h l hl,Du]
end
mutual
theorem bF {p q:Int->Bool} (h:∀i,p i=true->q i=true):∀t:Ty,oI p t=true->oI q t=true
 | .mk k n i ts,ht=>by
  rw[oI] at ht ⊢;cases h2:k==2 with
  | true=>grind[ow]
  | false=>
   rw[h2] at ht;simp only[AL,AI] at ht ⊢;exact⟨ht.1,fh h ts ht.2⟩
theorem fh {p q:Int->Bool} (h:∀i,p i=true->q i=true):∀l:List Ty,KJ p l=true->KJ q l=true
 | [],hl=>by cases hl
 | t::l,hl=>by
  rw[KJ] at hl ⊢;rcases PK.1 hl with hl|hl
  .rw[bF h t hl,Dv]
  .rw[fh h l hl,Du]
end
theorem Vz {g:Int->Int} {i j:Int} (hg:g i=j) {t:Ty} (hb:bd t=true) (h:oI (·==i) t=true):oI (·==j) (Bh (λi=>var (g i)) t)=true:=by
 rw[jS _ _ _ hb]
 grind[bF]
structure bG (M:Ms) (ω:Int->Nat) (S:Nat) (b:Br):Prop where
 wb:wB b.body=true
 inv:∀i:Nat,i<b.bounds.length->oI (·==(i:Int)) b.body=true
 Ko:wz M ω b.body<=S
section
variable {BC:Nat->Bool} {M:Ms}
theorem AGL (U:List Nat) {w:Nat} (hw:1<=w) (n:Nat) (i:Int):om U (bif i==-1 then(n:Int) else bif decide (i<0) then i+1 else i)<=om (w::U) i:=by
 by_cases h1:i=-1
 .simp[*,om]
 .by_cases h2:i<0
  .have e1:(i==-1)=false:=by grind
   have e2:((-1-i).toNat)=(-1-(i+1)).toNat+1:=AA;have e3:decide (0<=i)=false:=AB;have e4:decide (0<=i+1)=false:=AB
   grind[om,List.getD_cons_succ]
  grind[om]
theorem AC0 {U:List Nat} {w S:Nat} {b c:Br} {k:Nat} (hb:bG M (tq U w) S b) (hk:Fh b.body=some k) (hc:bG M (om U) w c) {W:Nat} (yu:MC W c) (hs:((b.bounds.length+c.bounds.length:Nat):Int)<hole):bG M (tq U w) S (DV b k c):=by
 obtain⟨f1,f2⟩:=Ei hk;have hkl:k<(Al b.body).length:=(BA.1 f1).1;have hsw:wB (Hr b.bounds.length c.body)=true:=by rw[Ot]; exact O0 _ _ hc.wb
 refine⟨AGJ hsw _ _ hb.wb,λi hi=>?_,?_⟩
 .have hi:i<b.bounds.length+c.bounds.length:=by grind[DV]
  by_cases h:i<b.bounds.length
  .exact oo _ _ _ _ (hb.inv i h)
  .refine z8 _ ?_ _ _ hkl
   rw[Ot];refine Vz (i:=((i-b.bounds.length:Nat):Int)) ?_ (OM _ hc.wb) (hc.inv _ AA)
   grind
 .refine BM (AGI M (w:=hole) ?_ b.body k f1) hb.Ko
  have e:tq U w hole=w:=AR;rw[e,Ot,MI _ _ _ _ hc.wb];refine BM (Vy M _ λi hi=>?_) hc.Ko
  have hnh:i≠hole:=λhe=>by
   have:=Nb.1 yu.nh
   grind
  have hin:=Tc _ yu.ok i hi
  grind[tq,om]
theorem oy {U:List Nat} {w S T wv W:Nat} {l:List Br} (hl:∀c∈l,bG M (om U) w c/\MC W c/\c.bounds.length<=wv) (hT:(T:Int)<hole):∀(f:Nat) (b:Br) (r:List Br),bG M (tq U w) S b->vP (Sv b.bounds.length) b.body=true->b.bounds.length+(Al b.body).count hole*wv<=T ->
  EK BC l f b=some r->∀d∈r,bG M (tq U w) S d
 | 0,b,r,hb,_,_,h,d,hd=>by grind[EK]
 | f+1,b,r,hb,hG,hTb,h,d,hd=>by
  rw[EK] at h;cases hk:Fh b.body with
  | none=>
   grind
  | some k=>
   rw[hk] at h;rcases J0 h d hd with h' | ⟨c,h1,s,h2,h3⟩
   .grind
   .obtain⟨hc,yu,hcw⟩:=hl c h1
    have hpos:0<(Al b.body).count hole:=by
     have hfs:=Ei hk
     grind
    have m0:1*wv<=(Al b.body).count hole*wv:=B5 _ hpos;have hs:((b.bounds.length+c.bounds.length:Nat):Int)<hole:=AA;obtain⟨g1,g2,g3,_⟩:=aX hG hk yu hs;have el:(DV b k c).bounds.length=b.bounds.length+c.bounds.length:=by simp[DV]
    have m2:(Al b.body).count hole*wv=(Al (DV b k c).body).count hole*wv+wv:=by rw[<-g3,KV]
    exact oy hl hT f _ s (AC0 hb hk hc yu hs) g1 AA h2 d h3
theorem AAA {U:List Nat} {w S T wv W V:Nat} (hw:1<=w) {RE:Option (List Br)} {bound:Ty} {b:Br} (hb:bG M (om (w::U)) S b) (hG:MC V b) (hl:∀l,RE=some l->∀c∈l,bG M (om U) w c/\MC W c/\c.bounds.length<=wv) (hT:(T:Int)<hole) (hbT:b.bounds.length+(Al b.body).length*wv<=T) {r:List Br} (h:E9 BC RE bound b=some r):∀d∈r,bG M (om U) S d:=by
 have hs:((b.bounds.length:Nat):Int)<hole:=AA;have hbd:=OM _ hb.wb;have hwi:wB (Hw b.bounds.length b.body)=true:=by rw[Kz]; exact O0 _ _ hb.wb
 have inv1:∀i:Nat,i<b.bounds.length->oI (·==(i:Int)) (Hw b.bounds.length b.body)=true:=λi hi=>by
  rw[Kz];refine Vz ?_ hbd (hb.inv i hi);rfl
 obtain⟨b1,b2,b3⟩:=AI8 hG hs;obtain⟨r1,r2⟩:=AI9 b1 hs;intro d hd;unfold E9 at h;cases ho:oI (·==(b.bounds.length:Int)) (Hw b.bounds.length b.body) with
 | true=>
  rw[ho] at h;cases h;rw[Dl.1 hd];refine⟨hwi,λi hi=>?_,?_⟩
  .simp only[Bo,B4,B6] at hi
   by_cases h:i<b.bounds.length
   all_goals grind
  .show wz M (om U) (Hw b.bounds.length b.body)<=S
   rw[Kz,MI _ _ _ _ hb.wb];exact BM (Nz M (λi=>AGL U hw _ i) _) hb.Ko
 | false=>
  rw[ho] at h;simp only[AL] at h
  have h0:bG M (tq U w) S ⟨b.bounds,JE b.bounds.length hole (Hw b.bounds.length b.body)⟩:=by
   refine⟨?_,λi hi=>?_,?_⟩
   .show wB (JE _ _ _)=true
    simp[*,J1,O0]
   .show oI _ (JE _ _ _)=true
    rw[J1];refine Vz ?_ (OM _ hwi) (inv1 i hi)
    grind
   .show wz M (tq U w) (JE _ _ _)<=S
    rw[J1,MI _ _ _ _ hwi,Kz,MI _ _ _ _ hb.wb];refine BM (Vy M _ λi hi=>?_) hb.Ko
    have hnh:i≠hole:=λhe=>by
     have:=Nb.1 hG.nh
     grind
    have hin:=nT.1 (Tc _ hG.ok i hi);have hlt:i<b.bounds.length:=AA;have key:=AGL U hw b.bounds.length i
    by_cases h1:i=-1
    .simp[*,tq,om]
    grind[tq]
  have fin:∀d,bG M (tq U w) S d->bG M (om U) S d:=λd h=>⟨h.wb,h.inv,BM (Nz M (λi=>by grind[tq,om]) _) h.Ko⟩
  cases hk:Fh (JE b.bounds.length hole (Hw b.bounds.length b.body)) with
  | none=>
   grind
  | some k=>
   rw[hk] at h;cases hb':RE with
   | none=>grind
   | some l=>
    rw[hb'] at h;simp only at h;have E6:(Al (JE b.bounds.length hole (Hw b.bounds.length b.body))).length=(Al b.body).length:=by simp[*,J1,EL,Kz]
    have RI:(Al (JE b.bounds.length hole (Hw b.bounds.length b.body))).count hole<=(Al b.body).length:=AB;refine fin _ (oy (T:=T) (λc hc=>hl l hb' c hc) hT _ ⟨b.bounds,JE b.bounds.length hole (Hw b.bounds.length b.body)⟩ r h0 r1 ?_ h d hd);have m1:(Al (JE b.bounds.length hole (Hw b.bounds.length b.body))).count hole*wv<=(Al b.body).length*wv:=B5 _ RI
    grind
end
theorem bG.le {M:Ms} {ω:Int->Nat} {S V:Nat} {b:Br} (h:bG M ω S b) (hl:S<=V):bG M ω V b:=⟨h.wb,h.inv,BM h.Ko hl⟩
def AC1 (M:Ms) (U:List Nat) (b:Br) (m:Nat) (Ss:List Nat):Prop:=∃args,b.body=.mk 3 [] 0 args/\args.length=m/\Me args=true/\CE (·<=·) (W9 M (om U) args) Ss/\∀i:Nat,i<b.bounds.length->oI (·==(i:Int)) b.body=true
section
variable {BC:Nat->Bool} {M:Ms}
theorem AKq {U:List Nat} {b c:Br} {m w:Nat} {Ss:List Nat} (hb:AC1 M U b m Ss) (hc:bG M (om U) w c) (hs:((b.bounds.length+c.bounds.length:Nat):Int)<hole):AC1 M U ⟨b.bounds++c.bounds,match b.body with
  | .mk _ _ _ args=>.mk 3 [] 0 (args++[Hr b.bounds.length c.body])⟩ (m+1) (Ss++[w]):=by
 obtain⟨args,he,hl,hw,ha,hi⟩:=hb;rw[he];have hsw:wB (Hr b.bounds.length c.body)=true:=by rw[Ot]; exact O0 _ _ hc.wb
 refine⟨args++[Hr b.bounds.length c.body],rfl,AB,?_,?_,λi h=>?_⟩
 .grind[oh,Me]
 .rw[oa]
  refine CE.append ha ⟨?_,Ai⟩;rw[Ot,MI _ _ _ _ hc.wb];refine BM (Nz M (λi=>?_) _) hc.Ko
  grind[om]
 .have h:i<b.bounds.length+c.bounds.length:=by grind
  show oI _ (.mk 3 [] 0 (args++[Hr b.bounds.length c.body]))=true
  rw[oI];simp only[show((3:Int)==2)=false from rfl,AL,CZ,CY,ou,KJ,Bool.or_false,Dk]
  by_cases hlt:i<b.bounds.length
  .grind[oI]
  .refine .inr ?_
   rw[Ot];refine Vz (i:=((i-b.bounds.length:Nat):Int)) ?_ (OM _ hc.wb) (hc.inv _ AA)
   grind
theorem AAB {T:Nat} (hT:(T:Int)<hole) {U:List Nat}:∀{ls:List (List Br)} {ws vs Ss:List Nat} {out r:List Br} {N m:Nat},(CE (λl w=>∀c∈l,bG M (om U) w c) ls ws)->(CE (λl w=>∀c∈l,c.bounds.length<=w) ls vs) ->
  (∀b∈out,AC1 M U b m Ss/\b.bounds.length<=N)->N+vs.sum<=T->Ir BC ls out=some r->∀d∈r,AC1 M U d (m+ls.length) (Ss++ws)
 | [],[],[],Ss,out,r,N,m,_,_,ho,_,h,d,hd=>by grind[Ir]
 | [],_::_,_,_,_,_,_,_,h,_,_,_,_,_,_=>h.elim
 | [],[],_::_,_,_,_,_,_,_,h,_,_,_,_,_=>h.elim
 | _::_,[],_,_,_,_,_,_,h,_,_,_,_,_,_=>h.elim
 | _::_,_::_,[],_,_,_,_,_,_,h,_,_,_,_,_=>h.elim
 | l::ls,w::ws,v::vs,Ss,out,r,N,m,⟨hw,hws⟩,⟨hv,hvs⟩,ho,hN,h,d,hd=>by
  rw[Ir] at h;rw[Ln] at hN;cases hb:BC (HN out l).length with
  | true=>grind
  | false=>
   rw[hb] at h;have:=AAB hT (N:=N+v) (m:=m+1) (Ss:=Ss++[w]) hws hvs (λb hb=>?_) AA h d hd
   .grind
   .obtain⟨a,ha,hb⟩:=Nc.1 hb
    obtain⟨c,hc,rfl⟩:=Cv.1 hb;obtain⟨h1,h2⟩:=ho a ha;have h3:=hv c hc;refine⟨AKq h1 (hw c hc) AA,?_⟩
    grind
theorem AGM:∀(f:Nat) (t:Ty) (l:List Br) (U:List Nat),(∀x∈U,1<=x)->valid t=true->CR (bw t)->DK BC f t=some l->∀b∈l,bG M (om U) (sz M t U) b:=by
 intro f
 induction f with
 | zero=>
  grind[DK]
 | succ f ih=>
  intro t l U hU hv hs h d hd;obtain⟨k,n,i,ts⟩:=t;have Lh:=hv;simp only[valid,AI] at hv;rw[DK] at h;have rz:∀(hk:(k==6)=false) (hk2:(k==3||k==4)=true),∀t0∈ts,CR (bw t0):=by grind[Cp,bw,Fl,Dz]
  rcases Ki hv.1 with ⟨rfl,rfl,rfl,rfl⟩|⟨rfl,rfl,rfl,rfl⟩|rfl|⟨rfl,rfl,rfl⟩|⟨rfl,rfl,rfl,hne⟩|⟨rfl,rfl,rfl,h0⟩|⟨rfl,rfl,rfl,b,body,rfl,hcb⟩
  .cases h
   rw[Dl.1 hd];exact⟨rfl,λi hi=>by grind,AY _⟩
  .grind
  .cases h
   rw[Dl.1 hd];obtain⟨r1,r2⟩:=zx hv.1;have tP:wB (.mk 2 n i ts)=true:=by grind[wB,N0]
   refine⟨?_,λi hi=>by grind,?_⟩
   .simp_all[L8,O0]
   .show wz M (om U) (rM _)<=_
    rw[L8,MI _ _ _ _ tP];exact AY _
  .simp only[show((3:Int)==0)=false from rfl,show((3:Int)==2||(3:Int)==5)=false from rfl,AL,CZ,AN] at h
   cases xz:Fb (ts.map (DK BC f)) with
   | none=>grind
   | some ls=>
    rw[xz] at h;simp only at h;have ha:=Iu xz;cases he:ls.any List.isEmpty with
    | true=>
     grind
    | false=>
     rw[he] at h;have Xj:=rz rfl rfl;have q1:CE (λl w=>∀c∈l,bG M (om U) w c) ls (ts.map λt=>sz M t U):=ha.Hl λt l hm hg c hc=>ih t l U hU (Bz hv.2 hm) (Xj t hm) hg c hc
     have q2:CE (λl w=>∀c∈l,c.bounds.length<=w) ls (ts.map bw):=ha.Hl λt l _ hg c hc=>(DC f t l hg c hc).1
     obtain⟨args,a1,a2,a3,a4,a5⟩:=AAB (T:=bw (.mk 3 [] 0 ts)) hs (N:=0) (m:=0) (Ss:=[]) q1 q2 (λb hb=>by
      rw[Dl.1 hb];exact⟨⟨[],rfl,rfl,rfl,Ai,λi hi=>by grind⟩,AD⟩) (by grind[bw,Fl]) h d hd
     have hlen:ls.length=ts.length:=ha.length.symm;have hroot:=hv.1;have h6:ts.length<=6:=by grind[root,shape]
     refine⟨?_,a5,?_⟩
     .grind[wB]
     .rw[a1,wz,sz,Qd]
      exact M.mono _ _ a4
  .simp only[show((4:Int)==0)=false from rfl,show((4:Int)==2||(4:Int)==5)=false from rfl,show((4:Int)==3)=false from rfl,AL,CZ,AN] at h
   cases xz:Fb (ts.map (DK BC f)) with
   | none=>grind
   | some ls=>
    rw[xz] at h;simp only at h;have ha:=Iu xz;cases hb:BC ls.flatten.length with
    | true=>grind
    | false=>
     rw[hb] at h;cases h;obtain⟨l',h1,h2⟩:=TB.1 hd;obtain⟨t,h3,h4⟩:=ha.LP l' h1;refine(ih t l' U hU (Bz hv.2 h3) (rz rfl rfl t h3) h4 d h2).le ?_;simp[*,sz,Qd,AGK,Ed]
  .cases h
   rw[Dl.1 hd];refine⟨rfl,λi hi=>by grind,?_⟩
   show om U (-1-i)<=U.getD i.toNat 1
   grind[om]
  .simp only[show((6:Int)==0)=false from rfl,show((6:Int)==2||(6:Int)==5)=false from rfl,show((6:Int)==3)=false from rfl,show((6:Int)==4)=false from rfl,AL,CZ,AN,dA] at h
   simp only[A9,AI] at hv;obtain⟨_,Km,Oj,_⟩:=hv;have hbw:bw (.mk 6 [] 0 [b,body])=bw body+1+(cv body+1)*bw b:=rfl;have iH:CR (bw b):=Cp hs AB;have hsy:CR (bw body):=Cp hs AA;cases hb:DK BC f body with
   | none=>grind
   | some l0=>
    rw[hb] at h;simp only at h;rcases J0 h d hd with h' | ⟨a,h1,s,h2,h3⟩
    .grind
    .obtain⟨z1,z2⟩:=DC f body l0 hb a h1
     have e:sz M (.mk 6 [] 0 [b,body]) U=sz M body (max 1 (sz M b [])::U):=rfl;rw[e];have hw1:1<=max 1 (sz M b []):=Nat.le_max_left _ _
     have hbU:sz M b U=sz M b []:=by
      have:=bE M b [] U [] Km hcb
      grind
     refine AAA (T:=bw (.mk 6 [] 0 [b,body])) (wv:=bw b) hw1 (ih body l0 _ (λx hx=>by grind) Oj hsy hb a h1) (VW f body l0 Oj hsy hb a h1) (λl hl c hc=>⟨(ih b l U hU Km iH hl c hc).le AA,VW f b l Km iH hl c hc,(DC f b l hl c hc).1⟩) hs ?_ h2 d h3;have m1:(Al a.body).length*bw b<=cv body*bw b:=B5 _ z2
     grind
end
mutual
theorem ATB (g:Int->Int):∀t:Ty,wP t=true->size (Bh (λi=>var (g i)) t)=size t/\depth (Bh (λi=>var (g i)) t)=depth t
 | .mk k n i ts,h=>by
  rw[wP] at h;rw[Bh];cases h5:k==5 with
  | true=>
   rw[h5] at h;simp only[AN,AI,GN] at h;obtain⟨_,rfl⟩:=h;exact⟨rfl,rfl⟩
  | false=>
   rw[h5] at h;cases h2:k==2 with
   | true=>
    rw[h2] at h;simp only[AL,AN,AI] at h;have:=bH g ts h.2
    grind[size,depth]
   | false=>
    rw[h2] at h;simp only[AL] at h;have:=Ie _ (λi=>var (g i)) h
    grind[Bh]
theorem bH (g:Int->Int):∀l:List Ty,WT l=true->Ac (Bq (λi=>var (g i)) l)=Ac l/\Ci (Bq (λi=>var (g i)) l)=Ci l
 | [],_=>⟨rfl,rfl⟩
 | t::l,h=>by
  simp only[WT,AI] at h;have h1:=ATB g t h.1;have h2:=bH g l h.2
  grind[Bq,Ac,Ci]
end
theorem oz:∀{l m:List Nat},CE (·<=·) l m->mx l<=mx m
 | [],[],_=>AY _
 | a::l,b::m,h=>by
  have h1:=h.1;have h2:=oz h.2
  grind[mx]
def Msz:Ms where
 c l:=1+l.sum
 nm:=size
 mono l m h:=by simp[*,Us]
 map g n i ts h:=by simp[*,size,bH]
def Mdp:Ms where
 c l:=mx l+1
 nm:=depth
 mono l m h:=by simp[*,oz]
 map g n i ts h:=by simp[*,depth,bH]
theorem kR (i:Int):om [] i=1:=by simp[*,om]
mutual
theorem bI:∀t:Ty,wB t=true->size t<=wz Msz (om []) t/\depth t<=wz Mdp (om []) t
 | .mk k n i ts,h=>by
  rw[wB] at h;rw[wz,wz];cases h5:k==5 with
  | true=>
   rw[h5] at h;simp only[AN,AI,GN] at h;obtain⟨_,rfl⟩:=h;simp only[AN,kR];exact⟨AY _,AY _⟩
  | false=>
   rw[h5] at h;cases h3:k==3 with
   | true=>
    have h0:(k==0)=false:=AB;have h2:(k==2)=false:=AB;rw[h0,h2,h3] at h;simp only[AL,CY,AI] at h;have:=fk ts h.2.2.2
    grind[size,Msz,depth,Mdp]
   | false=>exact⟨AY _,AY _⟩
theorem fk:∀l:List Ty,Me l=true->Ac l<=(W9 Msz (om []) l).sum/\Ci l<=mx (W9 Mdp (om []) l)
 | [],_=>⟨AY _,AY _⟩
 | t::l,h=>by
  simp only[Me,AI] at h;have h1:=bI t h.1;have h2:=fk l h.2
  grind[W9,Ac,Ci,mx]
end
section
variable {L:List Int} {g:Int->Int} (hinj:∀i∈L,∀j∈L,g i=g j->i=j)
include hinj
mutual
theorem fq:∀(b:Ty) (l:List Int),occs b l<+:L->occs (Bh (λi=>var (g i)) b) (l.map g)=(occs b l).map g
 | .mk k n i ts,l,hp=>by
  rw[Bh];cases h5:k==5 with
  | true=>
   have hi:i∈L:=hp.subset (J3 _ l i (by simp[vis,h5]));have hl:l<+:L:=(Ul _ l).trans hp;rw[occs,h5];have e:(l.map g).contains (g i)=l.contains i:=AB
   grind[occs]
  | false=>
   cases h:(k==2||k==3) with
   | true=>
    rw[occs,h5,h] at hp;rw[occs,h5,h];simp only[AL,AN] at hp ⊢;rw[occs,h5,h];exact Yg ts l hp
   | false=>
    grind[occs]
theorem Yg:∀(ts:List Ty) (l:List Int),FC ts l<+:L->FC (Bq (λi=>var (g i)) ts) (l.map g)=(FC ts l).map g
 | [],l,_=>rfl
 | t::ts,l,hp=>by
  have _h:=hinj;rw[Bq,FC,FC];rw[FC] at hp;rw[fq t l ((Je ts _).trans hp),Yg ts (occs t l) hp]
end
end
structure Cn (b:Br):Prop where
 wb:wB b.body=true
 top:ib false b.body=true
 vis:∀i∈vis b.body,0<=i/\i<(b.bounds.length:Int)
 occ:occs b.body []=(List.range b.bounds.length).map λ(i:Nat)=>(i:Int)
 inv:∀v:Nat,v<b.bounds.length->oI (·==(v:Int)) b.body=true
structure Can (t:Ty) (b:Br):Prop extends Cn b where
 ER:∀c∈b.bounds,Wx t c
 Ko:size b.body<=sz Msz t []
 dep:depth b.body<=sz Mdp t []
mutual
theorem AGN:∀t:Ty,wB t=true->ib true t=true
 | .mk k n i ts,h=>by
  rw[wB] at h;rw[ib];cases h5:k==5 with
  | true=>simp
  | false=>
   rw[h5] at h;cases h0:k==0 with
   | true=>rfl
   | false=>
    rw[h0] at h;cases h2:k==2 with
    | true=>rfl
    | false=>
     rw[h2] at h;simp only[AL,AI] at h;simp only[GL,AL,h.1,AAE ts h.2.2.2.2,Ft]
theorem AAE:∀l:List Ty,Me l=true->ibL l=true
 | [],_=>rfl
 | t::l,h=>by
  simp only[Me,AI] at h;rw[ibL,AGN t h.1,AAE l h.2];rfl
end
theorem AKr {t:Ty} (hv:valid t=true) (hc:CB 0 t=true) (hs:CR (bw t)) {l:List Br} (hl:DK (Aa 32) (depth t) t=some l):∀b∈l,Can t (EA b):=by
 intro b hb;obtain⟨ps,B,he,hm,hr,hB,Zb⟩:=oH hv hc hs hl;have h1:=AGM (BC:=Aa 32) (M:=Msz) (depth t) t l [] (λx hx=>by grind) hv hs hl b hb;have h2:=AGM (BC:=Aa 32) (M:=Mdp) (depth t) t l [] (λx hx=>by grind) hv hs hl b hb;have hG:=VW (BC:=Aa 32) (depth t) t l hv hs hl b hb;have hbn:=(DC (BC:=Aa 32) (depth t) t l hl b hb).1;have hnd:(occs b.body []).Nodup:=HA b.body [] GM;have hrb:=hr b hb;have wN:∀i∈vis b.body,i∈occs b.body []:=λi hi=>J3 b.body [] i hi
 have hbd:=OM _ h1.wb;have hlen:(occs b.body []).length<=b.bounds.length:=fD _ _ hnd hrb;have AbH:=wT hbd (λi hi=>⟨(hrb i (wN i hi)).1,Int.lt_of_lt_of_le (hrb i (wN i hi)).2 (by grind[CR])⟩) (Cp hs AA);have hbody:(EA b).body=Bh (λi=>var (pos (occs b.body []) i)) b.body:=AbH;have Qh:(EA b).bounds.length=(occs b.body []).length:=by simp[EA]
 have hinj:∀i∈occs b.body [],∀j∈occs b.body [],((pos (occs b.body []) i:Nat):Int)=((pos (occs b.body []) j:Nat):Int)->i=j:=by grind[List.getElem?_of_mem,Kj]
 have hsz:=bI _ h1.wb;have pg:wB (EA b).body=true:=by rw[hbody]; exact O0 _ _ h1.wb
 have hsd:size (EA b).body<=wz Msz (om []) b.body/\depth (EA b).body<=wz Mdp (om []) b.body:=by
  have h3:=bI _ pg;rw[hbody,MI _ _ _ _ h1.wb,MI _ _ _ _ h1.wb] at h3;rw[hbody];exact⟨BM h3.1 (Nz _ (λi=>by grind[kR]) _),BM h3.2 (Nz _ (λi=>by grind[kR]) _)⟩
 have hinv:∀v:Nat,v<(EA b).bounds.length->oI (·==(v:Int)) (EA b).body=true:=by
  intro v Lh;rw[Qh] at Lh;obtain⟨i,hi⟩:∃i,(occs b.body [])[v]?=some i:=⟨_,Ay Lh⟩;obtain⟨i0,i1⟩:=hrb i (A5 hi);rw[hbody];refine Vz (g:=λi=>((pos (occs b.body []) i:Nat):Int)) (i:=i) (by grind[Kj]) hbd ?_;have:=h1.inv i.toNat AA
  grind
 refine⟨⟨pg,?_,?_,?_,hinv⟩,?_,BM hsd.1 h1.Ko,BM hsd.2 h2.Ko⟩
 .rcases hk:(EA b).body with ⟨k,n,i,ts⟩
  rw[hk] at pg;have hib:=AGN _ pg;rw[ib] at hib ⊢;cases h5:k==5 with
  | false=>grind
  | true=>
   exfalso;have bX:k=5:=AB;have hcv:vis (EA b).body=[i]:=by grind[vis]
   have hpos:0<(EA b).bounds.length:=by
    rw[Qh];rcases hb0:b.body with ⟨k0,n0,i0,ts0⟩
    rw[hbody,hb0,Bh] at hk;cases h50:k0==5 with
    | true=>
     have:i0∈vis b.body:=by grind[vis]
     grind
    | false=>
     grind
   grind[oI]
 .simp_all[L7,lS,pos]
 .rw[hbody,Qh]
  have:=fq (L:=occs b.body []) (g:=λi=>((pos (occs b.body []) i:Nat):Int)) hinj b.body [] (C4 _);rw[Cd] at this;rw[this];refine FO λj=>?_
  grind[Kj]
 .intro c MW
  have MW:c∈(occs b.body []).map λi=>b.bounds.getD i.toNat bW:=MW
  grind
structure MsB (M:Ms) (f:Nat->Nat) (a a2:Nat):Prop where
 tup:∀l m,l.length<=3->(∀x∈l,x<=m)->M.c l<=f m
 up:∀m,m<=f m
 n1:∀t,size t<=3->depth t<=2->M.nm t<=a
 n2:∀t,size t<=7->depth t<=3->M.nm t<=a2
 h2:a2<=f (f a)
 pos:1<=a
theorem kS {m:Nat}:∀{l:List Nat},(∀x∈l,x<=m)->mx l<=m
 | [],_=>AO _
 | a::l,h=>by
  have h1:=h a AD;have h2:=kS (l:=l) λx hx=>h x AB
  grind[mx]
section
variable {M:Ms} {f:Nat->Nat} {a a2:Nat} (H:MsB M f a a2)
include H
theorem fy {ts:List Ty} {U:List Nat} {m:Nat} (hl:ts.length<=3) (h:∀t∈ts,sz M t U<=m):M.c (szl M ts U)<=f m/\mx (szl M ts U)<=m:=by
 have hm:∀x∈szl M ts U,x<=m:=by grind[Qd]
 exact⟨H.tup _ _ (by grind[Qd]) hm,kS hm⟩
theorem MJ {d m v:Nat} {U:List Nat} {t:Ty} (h:gq d t=true) (hv:valid t=true)
  (Wu:∀i:Int,t=.mk 5 [] i []->U.getD i.toNat 1<=v) (hnm:∀n i ts,t=.mk 2 n i ts->nz d t=true->M.nm t<=v) (ha:a<=v)
  (ATC:∀ts,(t=.mk 3 [] 0 ts\/t=.mk 4 [] 0 ts)->0<d->Vq (d-1) ts=true->(∀t∈ts,sz M t U<=m)) (hm:0<d->f m<=v)
  (hex:∀b body,t=.mk 6 [] 0 [b,body]->0<d->gq 1 b=true->gq (d-1) body=true->valid b=true->valid body=true->CB 0 b=true->sz M body (max 1 (sz M b [])::U)<=v):sz M t U<=v:=by
 obtain⟨k,n,i,ts⟩:=t;have Lh:=hv;simp only[valid,AI] at hv;rw[gq] at h;rcases Ki hv.1 with ⟨rfl,rfl,rfl,rfl⟩|⟨rfl,rfl,rfl,rfl⟩|rfl|⟨rfl,rfl,rfl⟩|⟨rfl,rfl,rfl,hne⟩|⟨rfl,rfl,rfl,h0⟩|⟨rfl,rfl,rfl,b,body,rfl,hcb⟩
 .exact BM (H.n1 _ (by simp[size,Ac]) (by simp[depth,Ci])) ha
 .exact BM (H.n1 _ (by simp[size,Ac]) (by simp[depth,Ci])) ha
 .exact hnm n i ts rfl h
 .simp only[CZ,Dv,AN,AI,Cq] at h
  obtain⟨h1,h2⟩:=fy H h.2.1 (ATC ts (.inl rfl) h.1 h.2.2);exact BM h1 (hm h.1)
 .simp only[CZ,Du,AN,AI,Cq] at h
  obtain⟨h1,h2⟩:=fy H h.2.1 (ATC ts (.inr rfl) h.1 h.2.2);exact BM h2 (BM (H.up m) (hm h.1))
 .exact Wu i rfl
 .simp only[show((6:Int)==3||(6:Int)==4)=false from rfl,AL,CZ,AN,AI,Cq,gqX,Vq] at h
  simp only[A9,AI] at hv;exact hex b body rfl h.1 h.2.1 h.2.2.1 hv.2.1 hv.2.2.1 hcb
theorem kT {U:List Nat} {v:Nat} (hU:∀x∈U,x<=v) (h1:1<=v) (i:Nat):U.getD i 1<=v:=by
 rw[TC];cases hg:U[i]? with
 | none=>grind
 | some x=>exact hU x (A5 hg)
theorem bJ {d v:Nat} {t:Ty} (hd:d<=1) (ha:a<=v) (h:nz d t=true):M.nm t<=v:=by
 unfold nz at h;rw[Aq hd] at h;simp only[AN,AI,Cq] at h;exact BM (H.n1 t h.1 h.2) ha
omit H in
theorem gB {t:Ty} {ts:List Ty} (e:t=.mk 3 [] 0 ts\/t=.mk 4 [] 0 ts) (hv:valid t=true):(∀u∈ts,valid u=true)/\(CB 0 t=true->∀u∈ts,CB 0 u=true):=by
 rcases e with rfl|rfl
 .simp only[valid,AI] at hv
  exact⟨λu hu=>Bz hv.2 hu,λhc u hu=>Fj AK (Dd hc AK) hu⟩
 .simp only[valid,AI] at hv
  exact⟨λu hu=>Bz hv.2 hu,λhc u hu=>Fj AK (Dd hc AK) hu⟩
omit H in
theorem bK {v:Nat} {t:Ty} (hv:valid t=true) (hc:CB 0 t=true) (i:Int) (e:t=.mk 5 [] i []):([]:List Nat).getD i.toNat 1<=v:=by
 subst e;have:=LN hc;have:=(Eb hv).2.2;omega
theorem AKs {t:Ty} (h:gq 0 t=true) (hv:valid t=true) (hc:CB 0 t=true):sz M t []<=a:=
 MJ H (m:=0) h hv (bK hv hc) (λn i ts e hn=>bJ H AA (AY _) hn) (AY _) (λts e hd=>absurd hd AA) (λhd=>absurd hd AA) λb body e hd=>absurd hd AA
theorem kU {W:Nat} (hW:a<=W) {t:Ty} {U:List Nat} (hU:∀x∈U,x<=W) (h:gq 0 t=true) (hv:valid t=true):sz M t U<=W:=by
 have:=H.pos;exact MJ H (m:=0) h hv (λi _=>kT H hU AA _) (λn i ts e hn=>bJ H AA hW hn) hW (λts e hd=>absurd hd AA) (λhd=>absurd hd AA) λb body e hd=>absurd hd AA
theorem V5:∀(m:Nat) (t:Ty),depth t<=m->gq 1 t=true->valid t=true->CB 0 t=true->sz M t []<=f a:=by
 intro m
 induction m with
 | zero=>
  intro t hd;obtain⟨k,n,i,ts⟩:=t
  grind[depth]
 | succ m ih=>
  intro t hd h hv hc;have h1:=H.up a;have h2:=H.pos;refine MJ H (m:=a) h hv (bK hv hc) (λn i ts e hn=>bJ H AA h1 hn) h1 (λts e _ hg u hu=>?_) (λ_=>AY _) λb body e _ dJ hgy Km Oj hcb=>?_
  .obtain⟨q1,q2⟩:=gB e hv
   exact AKs H (Hq hg hu) (q1 u hu) (q2 hc u hu)
  .subst e
   simp only[depth,Ci] at hd;have h3:=ih b AA dJ Km hcb;exact kU H h1 (λx hx=>by grind) hgy Oj
theorem kV {t:Ty} {U:List Nat} (hU:∀x∈U,x<=f a) (h:gq 1 t=true) (hv:valid t=true):sz M t U<=f (f a):=by
 have h1:=H.up a;have h2:=H.up (f a);have h3:=H.pos;refine MJ H (m:=f a) h hv (λi _=>BM (kT H hU AA _) h2) (λn i ts e hn=>bJ H AA AA hn) AA (λts e _ hg u hu=>?_) (λ_=>AY _) λb body e _ dJ hgy Km Oj hcb=>?_
 .exact kU H h1 hU (Hq hg hu) ((gB e hv).1 u hu)
 .have h4:=V5 H (depth b) b (AY _) dJ Km hcb
  exact BM (kU H h1 (λx hx=>by grind) hgy Oj) h2
omit H in
theorem nz2 {t:Ty} (h:nz 2 t=true):size t<=7/\depth t<=3:=by grind[nz]
theorem AKt {t:Ty} {U:List Nat} (hU:∀x∈U,x<=f a) (h:gq 2 t=true) (hv:valid t=true):sz M t U<=f (f (f a)):=by
 have h1:=H.up a;have h2:=H.up (f a);have h3:=H.pos;have h4:=H.up (f (f a));have h5:=H.h2;refine MJ H (m:=f (f a)) h hv (λi _=>BM (kT H hU AA _) AA) (λn i ts e hn=>BM (H.n2 t (nz2 hn).1 (nz2 hn).2) AA) AA (λts e _ hg u hu=>?_) (λ_=>AY _) λb body e _ dJ hgy Km Oj hcb=>?_
 .exact kV H hU (Hq hg hu) ((gB e hv).1 u hu)
 .have h6:=V5 H (depth b) b (AY _) dJ Km hcb
  grind[kV]
theorem AKu {t:Ty} (h:gq 2 t=true) (hv:valid t=true) (hc:CB 0 t=true):sz M t []<=f (f a):=by
 have h1:=H.up a;have h2:=H.up (f a);have h3:=H.pos;refine MJ H (m:=f a) h hv (bK hv hc) (λn i ts e hn=>BM (H.n2 t (nz2 hn).1 (nz2 hn).2) H.h2) AA (λts e _ hg u hu=>?_) (λ_=>AY _) λb body e _ dJ hgy Km Oj hcb=>?_
 .obtain⟨q1,q2⟩:=gB e hv
  exact V5 H (depth u) u (AY _) (Hq hg hu) (q1 u hu) (q2 hc u hu)
 .have h6:=V5 H (depth b) b (AY _) dJ Km hcb
  grind[kV]
theorem AAF {t:Ty} (h:gq 3 t=true) (hv:valid t=true) (hc:CB 0 t=true):sz M t []<=max (f (f (f a))) (M.nm t):=by
 have h1:=H.up a;have h2:=H.up (f a);have h3:=H.pos;have h4:=H.up (f (f a));refine MJ H (m:=f (f a)) h hv (bK hv hc) (λn i ts e hn=>Nat.le_max_right _ _) AA (λts e _ hg u hu=>?_) (λ_=>Nat.le_max_left _ _) λb body e _ dJ hgy Km Oj hcb=>?_
 .grind[gB,AKu,Hq]
 .have h6:=V5 H (depth b) b (AY _) dJ Km hcb
  grind[AKt]
end
theorem o5 {m:Nat}:∀{l:List Nat},(∀x∈l,x<=m)->l.sum<=l.length*m
 | [],_=>by simp
 | a::l,h=>by
  have h1:=h a AD;have h2:=o5 (l:=l) λx hx=>h x AB
  grind[Nat.add_mul]
theorem ATD:MsB Msz (λm=>1+3*m) 3 7 where
 tup l m hl h:=by
  have h1:=o5 h;have h2:l.length*m<=3*m:=B5 _ hl
  show 1+l.sum<=_
  omega
 up m:=AA
 n1 t h _:=h
 n2 t h _:=h
 h2:=AK
 pos:=AK
theorem ATE:MsB Mdp (λm=>m+1) 2 3 where
 tup l m _ h:=by
  have:=kS h
  show mx l+1<=_
  omega
 up m:=AA
 n1 t _ h:=h
 n2 t _ h:=h
 h2:=AK
 pos:=AK
theorem sS {t:Ty} (h:gq 3 t=true) (tR:verdict t=0) (hc:CB 0 t=true):sz Msz t []<=200/\sz Mdp t []<=12:=by
 obtain⟨hv,h1,h2⟩:=DX tR;have h3:=AAF ATD h hv hc;have h4:=AAF ATE h hv hc;have e1:Msz.nm t=size t:=rfl;have e2:Mdp.nm t=depth t:=rfl;omega
end Go.Proofs.YtpgfpakdnijngaaGreatDoor
