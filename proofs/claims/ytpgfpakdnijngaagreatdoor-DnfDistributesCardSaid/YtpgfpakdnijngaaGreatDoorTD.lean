/-
  Substitute: a variable becomes a placeholder.
-/
import Derived.Test.YtpgfpakdnijngaaGreatDoorTC
import Derived.Test.YtpgfpakdnijngaaGreatDoorTA
import Derived.Test.YtpgfpakdnijngaaGreatDoorTB
set_option linter.unusedSimpArgs false
set_option linter.unusedVariables false
namespace Go.Proofs.YtpgfpakdnijngaaGreatDoor
open Go.Tel
attribute [local simp] CX Cx MP MQ AX Df Ia wO setCells C2 FA DN Ca Bo alive Dx Hv KX nT Bi DF Bz Ib Fj Eo nU pY okB wX pZ wY pg wZ lu we wh wj wk wm wo wq wu wz w6 w7 okF w8 w9 xA xB xD Zh xE Ur Us Ut Uu xH xJ xK xN xO xQ xS xT xU xV Ic xW pn xX xY xZ xd pq xe xg xh xj xk Cn g0 g1 xI xL xM xF xG xC lf Y4 Y5
theorem y8 {L:A0} {s:AK} {a:AV} {es:List Ty} {t:Ty} {K:AV->AK->Prop} (ha:Ex L.rt s.ts 25 a (AQ es)) (hle:L.rt<=s.ts.length) (hl:es.length<2 ^ 38) (h:∀ a' ts',Ex L.rt ts' 25 a' (AQ (es++[t]))->L.rt<=ts'.length->K a' ⟨s.bs,ts'⟩) :
  E1 false L s 25 4 56 a (.AA [Ah t]) K:=by
 have hl':(AQ es).length=es.length:=Ad es;have Xl:(s.ts.take L.rt).length=L.rt:=by rw[DU]; omega
 have e:s.ts.take L.rt++s.ts.drop L.rt=s.ts:=OT _ _
 have:=Ma (L:=L) (bs:=s.bs) (ts:=s.ts.take L.rt) (x:=s.ts.drop L.rt) (e:=25) (k:=4) (bytes:=56) (a:=a) (rows:=AQ es) (row:=Ah t) (K:=K) (by rw[e,Xl]; exact ha) (by omega) (fun r hr=>HB hr) (Am t) (by omega) (DZ t) (by omega) (by omega) (by
  intro a' x' Hs;rw[Xl] at Hs;exact h a' _ (by simpa[FY,AQ] using Hs) (by simp only[Ab]; omega))
 rw[e] at this;exact this
theorem TQ {m:Nat} {ts:List (Nat×Nat)} {k:Nat} {a:AV} {rows:List (List PV)} (h:Ex m ts k a rows) (bs:List (List AV)) (n:Nat):∃ a',close bs n m a=some a'/\BP a' rows:=by
 rcases h with rfl|⟨t,rfl,_,h2⟩
 ·exact⟨_,(BP.AA _).close _ _ _,.AA _⟩
 ·have:¬ t<m:=by omega
  exact⟨.pv (.list rows),by simp[close,this],.list _⟩
theorem PL (t:Ty):Tel.Cu (.agg ((Ah t).map .pv)) (.agg ((Ah t).map .pv))=true:=by
 cases t;simp[Ah,Tel.Cu,L7,VF,JE,LV,Ep]
theorem B9.set {s:AK} (h:B9 s) {j:Nat} {c:List AV} (hc:AU s.bs.length c=true) (ts:List (Nat×Nat)):B9 ⟨s.bs.set j c,ts⟩:=by
 intro b hb;simp only[List.length_set];rcases iA hb with hb|rfl
 ·exact h b hb
 ·exact hc
mutual
def cw:Ty->Bool
 | .mk k _ i ts=>(!(k==5)||(ts.isEmpty&&decide (-(2 ^ 60)<=i)&&decide (i<2 ^ 60)))&&aM ts
def aM:List Ty->Bool
 | []=>true
 | t::l=>cw t&&aM l
end
abbrev AIf (p:Nat):AV:=.func (.func 122) [] [.ptr p 0]
section
variable {R:RT}
theorem AEn (i u:Int) (hu:0<=u) (hi:i<2 ^ 60) (p:Nat) {s:AK} (hs:B9 s) (hp:p<s.bs.length) (L:A0) :
  BC (env R) L 122 [AD i,AD u,.ptr p 0] s (.tuple [bif i==u then .ptr p 0 else .pv (.sc (.pointer none)),AD (bif i==u then 0 else bif decide (u<i) then i-1 else i)]) s:=by
 have fin:∀ (rr:Bool) (x:AV) (n:Int),(x=.ptr p 0\/x=.pv (.sc (.pointer none)))->QM rr s.bs.length (fun v s'=>v=.tuple [x,AD n]/\s'=s) (.tuple [x,AD n]) s:=by
  intro rr x n hx;have e:s.bs.take s.bs.length=s.bs:=RZ;refine Jj (ds:=[x,AD n]) ?_ ?_ ?_
  ·rw[e,Bs]
   exact hs
  ·rcases hx with rfl|rfl <;> simp[AN,close,hp]
  ·rw[e]
   exact⟨rfl,rfl⟩
 obtain⟨v,s',⟨rfl,rfl⟩,hc⟩:=AOh (R:=R) (L:=L) (s:=s) (t0:=AD i) (t1:=AD u) (t2:=.ptr p 0) (Post:=fun v s'=>v=.tuple [bif i==u then .ptr p 0 else .pv (.sc (.pointer none)),AD (bif i==u then 0 else bif decide (u<i) then i-1 else i)]/\s'=s) (by simp[BN,Dl]) (AEo (CC (by
  cases he:(i==u) with
  | true=>exact BZ (fin _ _ _ (.inl rfl))
  | false=>
   refine BQ (Je ?_)
   by_cases hlt:u<i
   ·have:i>u:=hlt
    rw[Au this];exact BZ (Le (by omega) (by omega) (fin _ _ _ (.inr rfl)))
   ·have:¬ i>u:=hlt
    rw[A9 this];exact BQ (AEp (fin _ _ _ (.inr rfl))))))
 exact hc
theorem Gt (k:Int) (n:List UInt8) (i:Int) (ts:List Ty) (h:k≠7):ren (.mk k n i ts)=.mk k n i (Bx ts):=by
 have:(k==7)=false:=by simpa using h
 rw[ren,this];rfl
theorem qh {p:Nat} {cp:List AV} {fn:AV} {ts ls:List Ty} {a:AV} (ha:BP a (AQ ts)) (hl:ts.length<2 ^ 38) (y9:ls.length=ts.length) {k i:Int} {n:List UInt8} {u:Nat} (hu:u<2 ^ 60)
  {s0:AK} (hs0:B9 s0) (hp:s0.bs[p]?=some cp)
  (ih:∀ (q:Nat) (t l:Ty),ts[q]?=some t->ls[q]?=some l->∀ s,B9 s->s.bs[p]?=some cp->∃ r,Bp l r/\∀ L,BC (env R) L 121 [.agg ((Ah t).map .pv),AD (u+HF k q:Nat),fn] s r s)
  {i':Int} {Post:AV->Prop} (hP:∀ r,Bp (.mk k n i' ls) r->Post r) :
  ∀ (j q:Nat) (s:AK) (b:AV),q+j=ts.length->B9 s->s.bs[p]?=some cp->s.bs[s0.bs.length]?=some [AD k,SS n,AD i,a]->s.bs[s0.bs.length+1]?=some Z4->s.bs[s0.bs.length+2]?=some [AD k,SS n,AD i',b] ->
   Ex s0.ts.length s.ts 25 b (AQ (ls.take q))->s0.ts.length<=s.ts.length ->
   YH R s0.bs.length s0.bs.length s0.ts.length (AD u) fn (.ptr s0.bs.length 0) (.ptr (s0.bs.length+1) 0) (.ptr (s0.bs.length+2) 0) a (AD ts.length) (AD q) s (QI s0.bs.length s0.ts.length Post):=by
 intro j
 induction j with
 | zero=>
  intro q s b hi hs h0 h1 h2 h3 hb hle;refine qi (BE ?_);rw[A9 (by omega)];refine BQ (AEq (Az h3 rfl (Ck h2 rfl rfl (by decide) (by simp[Ca]) (by simp[hb.BG.ok]) (.inl (by simp[Ca])) (Az (DH h2) rfl ?_))));rw[CL (by omega)] at hb;obtain⟨b',c1,c2⟩:=TQ hb (s.bs.set (s0.bs.length+1) [AD k,SS n,AD i',b]) s0.bs.length;exact⟨.agg [AD k,SS n,AD i',b'],by simp[c1],hP _ ⟨b',rfl,c2⟩⟩
 | succ j Gs=>
  intro q s b hi hs h0 h1 h2 h3 hb hle;refine qi (BE ?_);rw[Au (by omega)];obtain⟨t,ht⟩:∃ t,ts[q]?=some t:=⟨_,Ak (by omega)⟩;obtain⟨l,hlq⟩:∃ l,ls[q]?=some l:=⟨_,Ak (by omega)⟩;have hrl:((Ah t).map AV.pv).length=4:=by rw[AZ,Am]
  have hro:=DZ t
  have L3:AU (s.bs.length+1) ((Ah t).map AV.pv)=true:=by
   obtain⟨k1,n1,i1,t1⟩:=t;simp[Ah,AU,Aa]
  refine BZ (AEs (CS ha (row:=Ah t) (by omega) (by simpa using CA ht) (Am _) (by omega) (EU (Cj ?_))));have qj:=ih q t l ht hlq;have HY:=PL t;generalize (Ah t).map AV.pv=row at hrl hro L3 qj HY;obtain⟨bs,tk⟩:=s;have l3:=(Ae.1 h3).1;simp only at *;refine Ck (Ay bs Z4) hrl rfl (by decide) (by simp[Ca]; omega) hro (.inl (by simp[Ca]; omega)) ?_;have e:(bs++[Z4]).set bs.length row=bs++[row]:=by simp
  rw[e];have g0:=A6 h0 row;have g1:=A6 h1 row;have g2:=A6 h2 row;have g3:=A6 h3 row;have hs':B9 ⟨bs++[row],tk⟩:=B9.app (s:=⟨bs,tk⟩) hs L3;have hbn:=Su k q;have Xq:AW (env R) 119 [.agg [AD k,SS n,AD i,a],AD q] fun r=>r=AD (HF k q):=LW ha q
  obtain⟨r,LU,Qs⟩:=qj ⟨bs++[row],tk⟩ hs' g0;refine Aq (A7 g3) (Ax g3 rfl (Az (Ay bs row) hrl (Az g1 rfl (AI Xq ?_))));rintro _ rfl;refine Cr (by omega) (by omega) ?_;have e1:((u:Int)+(HF k q:Nat))=((u+HF k q:Nat):Int):=by omega
  rw[e1];refine⟨r,_,Qs _,Iu LU.jO ⟨by decide,y8 hb hle (by simp only[DU]; omega) ?_⟩⟩;intro b' Lg hb' hle';have er:ls.take q++[l]=ls.take (q+1):=by rw[Gr,hlq]; rfl
  rw[er] at hb';refine Aq (A7 g3) (Fl g3 (by simp) hb'.BG.cells (by simp[Ca]) hb'.BG.ok (.inl (by simp[Ca])) ?_);refine⟨Aq (A7 g3) (HR _ _),Aq (A7 g3) (HR _ _),Ax g3 rfl (Kw hb),Ax g3 rfl (Kw hb),Az (Ay bs row) hrl HY,AEt (Cr (by omega) (by omega) ?_)⟩;have lp:=(Ae.1 hp).1;have:=Gs (q+1) ⟨(bs++[row]).set (s0.bs.length+2) [AD k,SS n,AD i',b'],Lg⟩ b' (by omega) ?_ ?_ (Cs g1 (by omega)) (Cs g2 (by omega)) (DH g3) hb' hle'
  ·simpa using this
  ·exact B9.set (s:=⟨bs++[row],tk⟩) hs' (by simp[AU,Aa,hb'.BG.Aa]) _
  ·exact Cs g0 (by omega)
end
theorem TR {k i:Int} {n:List UInt8} {ts:List Ty} (h:valid (.mk k n i ts)=true):(n.head?==some 36)=false/\n.length<2 ^ 40:=by
 simp only[valid,AG] at h
 have nil:n=[]->(n.head?==some 36)=false/\n.length<2 ^ 40:=by
  rintro rfl;exact⟨rfl,by simp⟩
 rcases O8 h.1 with ⟨_,h2,_⟩|⟨_,h2,_⟩|rfl|⟨_,h2,_⟩|⟨_,h2,_⟩|⟨_,h2,_⟩|⟨_,h2,_⟩
 ·exact nil h2
 ·exact nil h2
 ·have h1:=h.1
  simp[root,shape] at h1;obtain⟨_,⟨⟨h3,_⟩,_⟩,_⟩:=h1;unfold Xx at h3;simp only[AG,BT] at h3;refine⟨?_,by omega⟩;rcases n with _|⟨c,w⟩
  ·rfl
  ·have h4:=h3.1.2
   simp only at h4;rw[Mo];intro h5;have h5:c=36:=by simpa using h5
   rw[h5] at h4;exact absurd h4 (by decide)
 ·exact nil h2
 ·exact nil h2
 ·exact nil h2
 ·exact nil h2
theorem QK {n:List UInt8} {i:Int} {ts:List Ty} (h:valid (.mk 5 n i ts)=true):i<=200:=by
 simp only[valid,root,shape,AG] at h;have h1:=h.1;simp at h1;exact h1.2.2
theorem D5 (σ:List Nat) (u:Nat) {k i:Int} {n:List UInt8} {ts:List Ty} (hv:valid (.mk k n i ts)=true):(k=5/\n=[]/\ts=[]/\0<=i/\i<=200/\((∃ v∈σ,inst σ u (.mk k n i ts)=ph v)\/inst σ u (.mk k n i ts)=.mk 5 [] i []))\/((k==5)=false/\inst σ u (.mk k n i ts)=.mk k n i (C5 σ u k 0 ts)):=by
 by_cases h5:k=5
 ·subst h5
  obtain⟨rfl,rfl,h0⟩:=JN hv;refine .inl ⟨rfl,rfl,rfl,h0,QK hv,?_⟩;rw[inst];simp only[BH,AE];cases decide ((u:Int)<=i) with
  | false=>exact .inr rfl
  | true=>
   simp only[AE];cases hg:σ[(i-u).toNat]? with
   | none=>exact .inr rfl
   | some v=>exact .inl ⟨v,BK hg,rfl⟩
 ·have b5:(k==5)=false:=by simpa using h5
  exact .inr ⟨b5,by rw[inst,b5]; rfl⟩
mutual
theorem Jk {q:Int->Bool} {σ:List Nat} (hσ:∀ x∈σ,q x=true):∀ (t:Ty) (u:Nat),valid t=true->Ev q (inst σ u t)=true
 | .mk k n i ts,u,hv=>by
  rcases D5 σ u hv with ⟨rfl,rfl,rfl,h0,h1,⟨v,h2,h3⟩|h3⟩|⟨b5,h3⟩
  ·rw[h3,Ev]
   simp[hσ v h2]
  ·rw[h3,Ev]
   simp[D8]
  ·have h7:(k==7)=false:=by have:=Jb hv; simpa using this
   have hn:=TR hv;simp only[valid,AG] at hv;rw[h3,Ev,h7,V2 hσ ts u k 0 hv.2];simp only[AB,hn.1,Au hn.2];rfl
theorem V2 {q:Int->Bool} {σ:List Nat} (hσ:∀ x∈σ,q x=true):∀ (l:List Ty) (u:Nat) (k:Int) (j:Nat),Bw l=true->D8 q (C5 σ u k j l)=true
 | [],_,_,_,_=>rfl
 | t::l,u,k,j,hv=>by
  simp only[Bw,AG] at hv;rw[C5,D8,Jk hσ t _ hv.1,V2 hσ l u k (j+1) hv.2];rfl
end
mutual
theorem TS (σ:List Nat):∀ (t:Ty) (u:Nat),valid t=true->cw (inst σ u t)=true
 | .mk k n i ts,u,hv=>by
  rcases D5 σ u hv with ⟨rfl,rfl,rfl,h0,h1,⟨v,h2,h3⟩|h3⟩|⟨b5,h3⟩
  ·rw[h3]
   rfl
  ·rw[h3,cw]
   have e1:decide (-(2 ^ 60)<=i)=true:=Au (by omega);have e2:decide (i<2 ^ 60)=true:=Au (by omega);rw[e1,e2];rfl
  ·simp only[valid,AG] at hv
   rw[h3,cw,b5,V3 σ ts u k 0 hv.2];rfl
theorem V3 (σ:List Nat):∀ (l:List Ty) (u:Nat) (k:Int) (j:Nat),Bw l=true->aM (C5 σ u k j l)=true
 | [],_,_,_,_=>rfl
 | t::l,u,k,j,hv=>by
  simp only[Bw,AG] at hv;rw[C5,aM,TS σ t _ hv.1,V3 σ l u k (j+1) hv.2];rfl
end
mutual
theorem jP (σ:List Nat):∀ (t:Ty) (u:Nat),valid t=true->cv (inst σ u t)=cv t
 | .mk k n i ts,u,hv=>by
  rcases D5 σ u hv with ⟨rfl,rfl,rfl,h0,h1,⟨v,h2,h3⟩|h3⟩|⟨b5,h3⟩
  ·rw[h3]
   rfl
  ·rw[h3]
  ·simp only[valid,AG] at hv
   rw[h3,cv,cv,TT σ ts u k 0 hv.2]
theorem TT (σ:List Nat):∀ (l:List Ty) (u:Nat) (k:Int) (j:Nat),Bw l=true->Lt (C5 σ u k j l)=Lt l
 | [],_,_,_,_=>rfl
 | t::l,u,k,j,hv=>by
  simp only[Bw,AG] at hv;rw[C5,Lt,Lt,jP σ t _ hv.1,TT σ l u k (j+1) hv.2]
end
mutual
theorem Ky (σ:List Nat):∀ (t:Ty) (u:Nat),valid t=true->size (inst σ u t)=size t/\depth (inst σ u t)=depth t/\wt (inst σ u t)=wt t/\inp (inst σ u t)=true
 | .mk k n i ts,u,hv=>by
  rcases D5 σ u hv with ⟨rfl,rfl,rfl,h0,h1,⟨v,h2,h3⟩|h3⟩|⟨b5,h3⟩
  ·rw[h3]
   exact⟨rfl,rfl,rfl,rfl⟩
  ·rw[h3]
   exact⟨rfl,rfl,rfl,rfl⟩
  ·have Y1:=hv
   simp only[valid,AG] at hv;obtain⟨e1,e2,e3,e4⟩:=TU σ ts u k 0 hv.2;rw[h3];refine⟨by rw[size,size,e1],by rw[depth,depth,e2],by rw[wt,wt,e1,e3,TT σ ts u k 0 hv.2],?_⟩;rw[inp,e4];cases b0:(k==0) with
   | false=>simp
   | true=>
    have:k=0:=by simpa using b0
    subst this;rcases O8 hv.1 with ⟨_,_,_,rfl⟩|h|h|h|h|h|h
    ·rfl
    all_goals exact absurd h (by simp)
theorem TU (σ:List Nat):∀ (l:List Ty) (u:Nat) (k:Int) (j:Nat),Bw l=true->Ac (C5 σ u k j l)=Ac l/\EJ (C5 σ u k j l)=EJ l/\Vv (C5 σ u k j l)=Vv l/\TK (C5 σ u k j l)=true
 | [],_,_,_,_=>⟨rfl,rfl,rfl,rfl⟩
 | t::l,u,k,j,hv=>by
  simp only[Bw,AG] at hv;obtain⟨e1,e2,e3,e4⟩:=Ky σ t (u+HF k j) hv.1;obtain⟨f1,f2,f3,f4⟩:=TU σ l u k (j+1) hv.2;exact⟨by rw[C5,Ac,Ac,e1,f1],by rw[C5,EJ,EJ,e2,f2],by rw[C5,Vv,Vv,e3,f3],by rw[C5,TK,e4,f4]; rfl⟩
end
mutual
theorem M5:∀ (t:Ty),valid t=true->ren t=t
 | .mk k n i ts,hv=>by
  have h7:(k==7)=false:=by have:=Jb hv; simpa using this
  simp only[valid,AG] at hv;rw[ren,h7,TV ts hv.2];rfl
theorem TV:∀ (l:List Ty),Bw l=true->Bx l=l
 | [],_=>rfl
 | t::l,hv=>by
  simp only[Bw,AG] at hv;rw[Bx,M5 t hv.1,TV l hv.2]
end
theorem Ek {t:Ty} (hv:valid t=true) (hc:Dg 0 t=true):inst [] 0 t=t:=JF [] t 0 hv hc
section
variable {R:RT}
theorem jQ {s:AK} {m:Option Nat} {K:AV->Prop} (h:K (BB false)):YI s (RP (.pv (.sc (.pointer none)))) m .neq (.pv (.sc (.pointer none))) (.pv (.sc (.pointer none))) K:=by
 simp only[YI,QL,GR];exact h
theorem zA {s:AK} {n:Option Nat} {id off:Nat} {K:AV->Prop} (ha:alive s id=true) (h:K (BB true)):YI s n (some 0) .neq (.ptr id off) (.pv (.sc (.pointer none))) K:=by
 simp only[YI,QL,E2];refine⟨?_,h⟩;simp[-alive,sameKind,D6,ha]
def FC (s:AK) (c d:List AV):AK:=⟨s.bs++[c]++[Z4]++[d],s.ts⟩
theorem Ii {s:AK} {c d:List AV}:(FC s c d).bs[s.bs.length]?=some c/\(FC s c d).bs[s.bs.length+1]?=some Z4/\(FC s c d).bs[s.bs.length+2]?=some d:=by
 have e:(FC s c d).bs=s.bs++[c,Z4,d]:=by simp[FC]
 rw[e];refine⟨?_,?_,?_⟩ <;> rw[CV (by omega)] <;> simp
theorem TW {s:AK} {c d:List AV} {p:Nat} {x:List AV} (h:s.bs[p]?=some x):(FC s c d).bs[p]?=some x:=A6 (A6 (A6 h _) _) _
theorem R1 {s:AK} (hs:B9 s) {c d:List AV} (hc:AU 0 c=true) (hd:AU 0 d=true):B9 (FC s c d):=by
 intro b hb;simp only[FC,BL,Bj] at hb;rcases hb with ((hb|rfl)|rfl)|rfl
 ·exact CZ (by simp[FC]) b (hs b hb)
 ·exact CZ (by simp[FC]) _ hc
 ·simp[AU,Aa]
 ·exact CZ (by simp[FC]) _ hd
theorem Kz {s:AK} {u:Nat} {fn:AV} (hfn:close [] 0 0 fn=none) {k' i':Int} {n':List UInt8} {a:AV} {rows:List (List PV)} {Post:AV->Prop} (ha:BP a rows)
  (hh:AX (BB (k'==5)) (
   Bo (FC s [AD k',SS n',AD i',a] [AD k',SS n',AD i',.AA []]) (.ptr s.bs.length 0) 2 fun a19=>
   FA (env R) (FC s [AD k',SS n',AD i',a] [AD k',SS n',AD i',.AA []]) none a19 fun a20=>
   Fe (env R) (Ca (env R) 121 s.bs.length s.bs.length s.ts.length) (fn) [a20,AD u] (FC s [AD k',SS n',AD i',a] [AD k',SS n',AD i',.AA []]) fun a22 TX=>
   DF a22 0 fun a23=>
   DF a22 1 fun a24=>
   YI TX (RP a23) (some 0) .neq a23 (.pv (.sc (.pointer none))) fun a26=>
   AX a26 (
   Eo TX a23 fun a28=>
   FA (env R) TX (some 4) a28 fun a29=>
   Fe (env R) (Ca (env R) 121 s.bs.length s.bs.length s.ts.length) (.func (.func 146) [] []) [a29] TX fun a30 zB=>
   C2 (Ca (env R) 121 s.bs.length s.bs.length s.ts.length) zB 4 (.ptr (s.bs.length+1) 0) a30 fun y6=>
   FA (env R) y6 (some 4) (.ptr (s.bs.length+1) 0) fun r=>
   QI s.bs.length s.ts.length Post r y6) (
   YJ R s.bs.length s.bs.length s.ts.length (AD u) (fn) (.ptr s.bs.length 0) (.ptr (s.bs.length+1) 0) (.ptr (s.bs.length+2) 0) a24 TX (QI s.bs.length s.ts.length Post))) (
   QN R s.bs.length s.bs.length s.ts.length (AD u) (fn) (.ptr s.bs.length 0) (.ptr (s.bs.length+1) 0) (.ptr (s.bs.length+2) 0) (FC s [AD k',SS n',AD i',a] [AD k',SS n',AD i',.AA []]) (QI s.bs.length s.ts.length Post))) :
  ∃ r,Post r/\∀ L,BC (env R) L 121 [.agg [AD k',SS n',AD i',a],AD u,fn] s r s:=by
 refine i121 (by simp[AN,close,hfn]) (AEu ?_);refine DY (cs:=[AD k',SS n',AD i',a]) rfl (by simp[ha.ok]) (Cj ?_);refine Az (cs:=[AD k',SS n',AD i',a]) (A6 (Ay _ _) _) rfl (Cj ?_);refine Ck (old:=Z4) (Ay _ _) rfl rfl (by decide) (by simp[Ca]) (by simp[ha.ok]) (.inl (by simp[Ca])) ?_;have e:((s.bs++[[AD k',SS n',AD i',a]]++[Z4]++[Z4]).set (s.bs++[[AD k',SS n',AD i',a]]++[Z4]).length [AD k',SS n',AD i',a])=(FC s [AD k',SS n',AD i',a] [AD k',SS n',AD i',a]).bs:=by simp[FC,cellsOf]
 have l1:(s.bs++[[AD k',SS n',AD i',a]]++[Z4]).length=s.bs.length+2:=by simp
 have l2:(s.bs++[[AD k',SS n',AD i',a]]).length=s.bs.length+1:=by simp
 simp only at e l1 l2 ⊢;rw[e];simp only[l1,l2];obtain⟨g0,g1,g2⟩:=Ii (s:=s) (c:=[AD k',SS n',AD i',a]) (d:=[AD k',SS n',AD i',a]);refine Aq (A7 g2) (Fl (off:=3) g2 (AL 4) rfl (by simp[Ca]) rfl (.inl (by simp[Ca])) ?_)
 have e2:(FC s [AD k',SS n',AD i',a] [AD k',SS n',AD i',a]).bs.set (s.bs.length+2) ([AD k',SS n',AD i',a].set 3 (.AA []))=(FC s [AD k',SS n',AD i',a] [AD k',SS n',AD i',.AA []]).bs:=by
  have:(FC s [AD k',SS n',AD i',a] [AD k',SS n',AD i',a]).bs=(s.bs++[[AD k',SS n',AD i',a]]++[Z4])++[[AD k',SS n',AD i',a]]:=rfl;rw[this,LC _ _ (by simp)];simp[FC]
 show Bo ⟨(FC s [AD k',SS n',AD i',a] [AD k',SS n',AD i',a]).bs.set (s.bs.length+2) ([AD k',SS n',AD i',a].set 3 (.AA [])),s.ts⟩ _ _ _
 rw[e2];obtain⟨g0,g1,g2⟩:=Ii (s:=s) (c:=[AD k',SS n',AD i',a]) (d:=[AD k',SS n',AD i',.AA []]);exact Aq (A7 g0) (Ax g0 rfl (CC hh))
theorem PM {s:AK} {p:Nat} {cp:List AV} {fn:AV} {ts ls:List Ty} {a:AV} (ha:BP a (AQ ts)) (hl:ts.length<2 ^ 38) (y9:ls.length=ts.length) {k i0 i':Int} {n:List UInt8} {u:Nat} (hu:u<2 ^ 60) (hs:B9 s) (hp:s.bs[p]?=some cp)
  (ih:∀ (q:Nat) (t l:Ty),ts[q]?=some t->ls[q]?=some l->∀ s,B9 s->s.bs[p]?=some cp->∃ r,Bp l r/\∀ L,BC (env R) L 121 [.agg ((Ah t).map .pv),AD (u+HF k q:Nat),fn] s r s)
  {Post:AV->Prop} (hP:∀ r,Bp (.mk k n i' ls) r->Post r) :
  QN R s.bs.length s.bs.length s.ts.length (AD u) fn (.ptr s.bs.length 0) (.ptr (s.bs.length+1) 0) (.ptr (s.bs.length+2) 0) (FC s [AD k,SS n,AD i0,a] [AD k,SS n,AD i',.AA []]) (QI s.bs.length s.ts.length Post):=by
 obtain⟨g0,g1,g2⟩:=Ii (s:=s) (c:=[AD k,SS n,AD i0,a]) (d:=[AD k,SS n,AD i',.AA []]);exact AEv (Aq (A7 g0) (Ax g0 rfl (BS (n:=ts.length) (by rw[ha.Bk,Ad]) (qh ha hl y9 hu hs hp ih hP ts.length 0 _ (.AA []) (by omega) (R1 hs (by simp[AU,Aa,ha.Aa]) (by simp[AU,Aa])) (TW hp) g0 g1 g2 (.inl rfl) (AL _)))))
theorem qm {s:AK} {fn:AV} {u:Nat} {n:List UInt8} {i i':Int} {a:AV} (ha:BP a []) (hu:u<2 ^ 60) (hs:B9 s) {p:Nat} {cp:List AV} (hp:s.bs[p]?=some cp) {Post:AV->Prop} (hP:∀ r,Bp (.mk 5 n i' []) r->Post r) :
  YJ R s.bs.length s.bs.length s.ts.length (AD u) fn (.ptr s.bs.length 0) (.ptr (s.bs.length+1) 0) (.ptr (s.bs.length+2) 0) (AD i') (FC s [AD 5,SS n,AD i,a] [AD 5,SS n,AD i,.AA []]) (QI s.bs.length s.ts.length Post):=by
 obtain⟨g0,g1,g2⟩:=Ii (s:=s) (c:=[AD 5,SS n,AD i,a]) (d:=[AD 5,SS n,AD i,.AA []]);refine AEw (Aq (A7 g2) (Fl g2 (by simp) rfl (by simp[Ca]) rfl (.inl (by simp[Ca])) ?_))
 have e3:(FC s [AD 5,SS n,AD i,a] [AD 5,SS n,AD i,.AA []]).bs.set (s.bs.length+2) ([AD 5,SS n,AD i,.AA []].set 2 (AD i'))=(FC s [AD 5,SS n,AD i,a] [AD 5,SS n,AD i',.AA []]).bs:=by
  have:(FC s [AD 5,SS n,AD i,a] [AD 5,SS n,AD i,.AA []]).bs=(s.bs++[[AD 5,SS n,AD i,a]]++[Z4])++[[AD 5,SS n,AD i,.AA []]]:=rfl;rw[this,LC _ _ (by simp)];simp[FC]
 show QN R _ _ _ _ _ _ _ _ ⟨(FC s [AD 5,SS n,AD i,a] [AD 5,SS n,AD i,.AA []]).bs.set (s.bs.length+2) ([AD 5,SS n,AD i,.AA []].set 2 (AD i')),s.ts⟩ _
 rw[e3];exact PM (ts:=[]) (ls:=[]) ha (by simp) rfl hu hs hp (by simp) hP
theorem jR {v u:Nat} {k:Int}:∀ (ts:List Ty) (b q:Nat) (l:Ty),(Bx (KT v u k b ts))[q]?=some l->∃ t,ts[q]?=some t/\(Bx ts)[q]?=some (ren t)/\l=ren (sub v (u+HF k (b+q)) t)
 | [],_,_,_,h=>by simp[KT,Bx] at h
 | t::ts,b,0,l,h=>by
  simp only[KT,Bx,GQ,AY] at h;exact⟨t,rfl,rfl,h.symm⟩
 | t::ts,b,q+1,l,h=>by
  simp only[KT,Bx,FN] at h ⊢;obtain⟨t',h1,h2,h3⟩:=jR ts (b+1) q l h;have e:b+1+q=b+(q+1):=by omega
  exact⟨t',h1,h2,by rw[h3,e]⟩
theorem aN {v u:Nat} {k:Int}:∀ (ts:List Ty) (b:Nat),(Bx (KT v u k b ts)).length=(Bx ts).length
 | [],_=>rfl
 | t::ts,b=>by simp[KT,Bx,aN ts (b+1)]
mutual
theorem aO {N v p:Nat}:∀ (t:Ty),size t<2 ^ 38->H6 N t=true->cw t=true->∀ (u:Nat),u+size t<2 ^ 60->∀ (x:AV),Bp (ren t) x->∀ (s:AK),B9 s->s.bs[p]?=some [AD 2,SS (36::GH v),AD 0,.AA []] ->
  ∃ r,Bp (ren (sub v u t)) r/\∀ L,BC (env R) L 121 [x,AD u,AIf p] s r s
 | .mk k n i ts,h,ht,UW,u,hu,x,hx,s,hs,hp=>by
  have JM:=(Ae.1 hp).1;simp only[size] at h hu;rw[H6] at ht;rw[cw] at UW
  by_cases h7:k=7
  ·subst h7
   simp only[BH,AE,AG,IM] at ht;have hts:=ht.1;subst hts;have er:ren (.mk 7 n i [])=.mk 2 (36::GH i.toNat) 0 []:=rfl;have es:ren (sub v u (.mk 7 n i []))=.mk 2 (36::GH i.toNat) 0 []:=rfl;rw[er] at hx;rw[es];obtain⟨a,rfl,ha⟩:=hx;exact Kz rfl ha (BQ (PM (ts:=[]) (ls:=[]) ha (by simp) rfl (by omega) hs hp (by simp) fun r hr=>hr))
  ·have er:=Gt k n i ts h7
   rw[er] at hx;obtain⟨a,rfl,ha⟩:=hx
   by_cases h5:k=5
   ·subst h5
    simp only[BH,Rf,HH,AG,IM] at UW;have hts:=UW.1.1.1;have hi:i<2 ^ 60:=by simpa using UW.1.2
    subst hts;refine Kz rfl ha (BZ ?_);obtain⟨g0,g1,g2⟩:=Ii (s:=s) (c:=[AD 5,SS n,AD i,a]) (d:=[AD 5,SS n,AD i,.AA []]);have hok:B9 (FC s [AD 5,SS n,AD i,a] [AD 5,SS n,AD i,.AA []]):=R1 hs (by simp[AU,Aa,ha.Aa]) (by simp[AU,Aa]);have gp:=TW (c:=[AD 5,SS n,AD i,a]) (d:=[AD 5,SS n,AD i,.AA []]) hp;refine Aq (A7 g0) (Ax g0 rfl ?_);refine⟨_,_,AEn i u (by omega) hi p hok (by simp[FC]; omega) _,Bq rfl (Bq rfl ?_)⟩
    have Uz:sub v u (.mk 5 n i [])=bif i==(u:Int) then ph v else bif decide ((u:Int)<i) then .mk 5 n (i-1) [] else .mk 5 n i []:=by
     rw[sub];rfl
    rw[Uz];cases he:(i==(u:Int)) with
    | true=>
     simp only[AE];refine zA (A7 gp) (BZ (GG (A7 gp) (Az gp rfl ?_)));have hc:=TP (R:=R) (ren (ph v)) (by simp[ren,size,Ac]) (.agg [AD 2,SS (36::GH v),AD 0,.AA []]) ⟨_,rfl,.AA _⟩;refine AI hc ?_;rintro w ⟨b,rfl,hb⟩;refine Ck g1 rfl rfl (by decide) (by simp[Ca]) (by simp[hb.ok]) (.inl (by simp[Ca])) (Az (DH g1) rfl ?_);exact⟨.agg [AD 2,SS (36::GH v),AD 0,b],by simp[hb.close],⟨b,rfl,hb⟩⟩
    | false=>
     simp only[AB];refine jQ (BQ (qm ha (by omega) hs hp fun r hr=>?_));cases hd:decide ((u:Int)<i) with
     | true=>rw[hd] at hr; exact hr
     | false=>rw[hd] at hr; exact hr
   ·have b5:(k==5)=false:=by simpa using h5
    have b7:(k==7)=false:=by simpa using h7
    have es:ren (sub v u (.mk k n i ts))=.mk k n i (Bx (KT v u k 0 ts)):=by
     rw[sub,b5];exact Gt _ _ _ _ h7
    rw[es];refine Kz rfl ha ?_;rw[b5];rw[b7] at ht;simp only[AB,AG] at ht UW;have l5:=Cq ts;refine BQ (PM ha (by rw[Bf,AZ]; omega) (aN ts 0) (by omega) hs hp ?_ fun r hr=>hr);intro q t l hq hlq s' hs' hp';obtain⟨t',h1,h2,h3⟩:=jR ts 0 q l hlq;rw[h2] at hq;cases hq;rw[h3];have hbn:=Su k q;rw[CJ];exact V4 ts (by omega) ht.2.2 UW.2 (u+HF k q) (by omega) t' (BK h1) s' hs' hp'
theorem V4 {N v p:Nat}:∀ (l:List Ty),Ac l<2 ^ 38->I0 N l=true->aM l=true->∀ (u:Nat),u+Ac l<2 ^ 60->∀ t∈l,∀ (s:AK),B9 s->s.bs[p]?=some [AD 2,SS (36::GH v),AD 0,.AA []] ->
  ∃ r,Bp (ren (sub v u t)) r/\∀ L,BC (env R) L 121 [.agg ((Ah (ren t)).map .pv),AD u,AIf p] s r s
 | [],_,_,_,_,_,_,h=>by cases h
 | e::l,h,ht,UW,u,hu,t,hm=>by
  simp only[Ac] at h hu;simp only[I0,AG] at ht;simp only[aM,AG] at UW;rcases Av.1 hm with h' | h'
  ·rw[h']
   exact aO e (by omega) ht.1 UW.1 u (by omega) _ (Bp.Ci _)
  ·exact V4 l (by omega) ht.2 UW.2 u (by omega) t h'
end
theorem RQ {N v:Nat} {t:Ty} (h:size t<2 ^ 38) (ht:H6 N t=true) (hv:cw t=true) {x:AV} (hx:Bp (ren t) x):AW (env R) 89 [x,phA v] fun r=>Bp (ren (sub v 0 t)) r:=by
 obtain⟨k',n',i',ts',hr⟩:∃ k n i ts,ren t=.mk k n i ts:=by
  obtain⟨k,n,i,ts⟩:=ren t;exact⟨k,n,i,ts,rfl⟩
 have hx':=hx;rw[hr] at hx;obtain⟨a,rfl,ha⟩:=hx;refine e89 (u0:=.agg [AD k',SS n',AD i',a]) (u1:=phA v) (by simp[ha.close,AN,close]) (AIi ?_);refine DY (cs:=[AD k',SS n',AD i',a]) rfl (by simp[ha.ok]) (DY (cs:=[AD 2,SS (36::GH v),AD 0,.AA []]) rfl (by simp) (Cj (Az (cs:=[AD k',SS n',AD i',a]) rfl rfl ?_)))
 have hs:B9 ⟨[[AD k',SS n',AD i',a],[AD 2,SS (36::GH v),AD 0,.AA []],Z4],[]⟩:=by
  intro b hb;simp only[Av,Fs,FL] at hb;rcases hb with rfl|rfl|rfl <;> simp[AU,Aa,ha.Aa]
 obtain⟨r,h1,h2⟩:=aO (R:=R) (v:=v) (p:=1) t h ht hv 0 (by omega) _ hx' ⟨[[AD k',SS n',AD i',a],[AD 2,SS (36::GH v),AD 0,.AA []],Z4],[]⟩ hs rfl;refine⟨r,_,h2 _,?_⟩;have ZP:=h1
 obtain⟨k2,n2,i2,N2,Qs⟩:∃ k n i ts,ren (sub v 0 t)=.mk k n i ts:=by
  obtain⟨k,n,i,ts⟩:=ren (sub v 0 t);exact⟨k,n,i,ts,rfl⟩
 rw[Qs] at h1;obtain⟨b,rfl,hb⟩:=h1;refine Ck (old:=Z4) (id:=2) rfl rfl rfl (by decide) (AM _) (by simp[hb.ok]) (.inl (AM _)) (Az (cs:=[AD k2,SS n2,AD i2,b]) rfl rfl ?_);exact⟨.agg [AD k2,SS n2,AD i2,b],by simp[hb.close],ZP⟩
end
section
variable {R:RT}
abbrev AIj (p:Nat):AV:=.func (.func 134) [] [.ptr p 0]
theorem AEx (i u:Int) (h0:-(2 ^ 60)<=i) (h1:i<2 ^ 60) (h2:0<=u) (h3:u<2 ^ 60) (p:Nat) {s:AK} (hs:B9 s) (hp:s.bs[p]?=some [.AA []]) (L:A0) :
  BC (env R) L 134 [AD i,AD u,.ptr p 0] s (.tuple [.pv (.sc (.pointer none)),AD i]) s:=by
 have fin:∀ (rr:Bool),QM rr s.bs.length (fun v s'=>v=.tuple [.pv (.sc (.pointer none)),AD i]/\s'=s) (.tuple [.pv (.sc (.pointer none)),AD i]) s:=by
  intro rr;have e:s.bs.take s.bs.length=s.bs:=RZ;refine Jj (ds:=[.pv (.sc (.pointer none)),AD i]) ?_ ?_ ?_
  ·rw[e,Bs]
   exact hs
  ·simp[AN,close]
  ·rw[e]
   exact⟨rfl,rfl⟩
 obtain⟨v,s',⟨rfl,rfl⟩,hc⟩:=AOj (R:=R) (L:=L) (s:=s) (t0:=AD i) (t1:=AD u) (t2:=.ptr p 0) (Post:=fun v s'=>v=.tuple [.pv (.sc (.pointer none)),AD i]/\s'=s) (by simp[BN,Dl]) (AEy (Le (by omega) (by omega) (QF (by
  by_cases h:i>=u
  ·rw[Au h]
   refine A8 (A8 (Ax hp rfl (A8 (BS (n:=0) rfl (A8 (BE (pk ?_)))))));rw[A9 (by omega)];exact BQ (qo (fin _))
  ·rw[A9 h]
   exact Cy (Cy (Cy (Cy (pk (BQ (qo (fin _)))))))))))
 exact hc
mutual
theorem V5 {p:Nat}:∀ (t:Ty),size t<2 ^ 38->cw t=true->∀ (u:Nat),u+size t<2 ^ 60->∀ (x:AV),Bp t x->∀ (s:AK),B9 s->s.bs[p]?=some [.AA []] ->
  ∃ r,Bp t r/\∀ L,BC (env R) L 121 [x,AD u,AIj p] s r s
 | .mk k n i ts,h,UW,u,hu,x,hx,s,hs,hp=>by
  simp only[size] at h hu;rw[cw] at UW;obtain⟨a,rfl,ha⟩:=hx
  by_cases h5:k=5
  ·subst h5
   simp only[BH,Rf,HH,AG,IM,BT] at UW;have hts:=UW.1.1.1;subst hts;refine Kz rfl ha (BZ ?_);obtain⟨g0,g1,g2⟩:=Ii (s:=s) (c:=[AD 5,SS n,AD i,a]) (d:=[AD 5,SS n,AD i,.AA []]);have hok:B9 (FC s [AD 5,SS n,AD i,a] [AD 5,SS n,AD i,.AA []]):=R1 hs (by simp[AU,Aa,ha.Aa]) (by simp[AU,Aa]);exact Aq (A7 g0) (Ax g0 rfl ⟨_,_,AEx i u UW.1.1.2 UW.1.2 (by omega) (by omega) p hok (TW hp) _,Bq rfl (Bq rfl (jQ (BQ (qm ha (by omega) hs hp fun r hr=>hr))))⟩)
  ·have b5:(k==5)=false:=by simpa using h5
   refine Kz rfl ha ?_;rw[b5];simp only[AG] at UW;have l5:=Cq ts;refine BQ (PM ha (by omega) rfl (by omega) hs hp ?_ fun r hr=>hr);intro q t l hq hlq s' hs' hp';rw[hq] at hlq;cases hlq;have hbn:=Su k q;exact TY ts (by omega) UW.2 (u+HF k q) (by omega) t (BK hq) s' hs' hp'
theorem TY {p:Nat}:∀ (l:List Ty),Ac l<2 ^ 38->aM l=true->∀ (u:Nat),u+Ac l<2 ^ 60->∀ t∈l,∀ (s:AK),B9 s->s.bs[p]?=some [.AA []] ->
  ∃ r,Bp t r/\∀ L,BC (env R) L 121 [.agg ((Ah t).map .pv),AD u,AIj p] s r s
 | [],_,_,_,_,_,h=>by cases h
 | e::l,h,UW,u,hu,t,hm=>by
  simp only[Ac] at h hu;simp only[aM,AG] at UW;rcases Av.1 hm with h' | h'
  ·rw[h']
   exact V5 e (by omega) UW.1 u (by omega) _ (Bp.Ci _)
  ·exact TY l (by omega) UW.2 u (by omega) t h'
end
theorem YK {t:Ty} (h:size t<2 ^ 38) (hv:cw t=true) {x:AV} (hx:Bp t x):AW (env R) 107 [x,.AA []] fun r=>Bp t r:=by
 obtain⟨k,n,i,ts⟩:=t;have hx':=hx;obtain⟨a,rfl,ha⟩:=hx;refine AOk (u0:=.agg [AD k,SS n,AD i,a]) (u1:=.AA []) (by simp[ha.close,AN,close]) (AEz ?_);refine DY (cs:=[AD k,SS n,AD i,a]) rfl (by simp[ha.ok]) (DY (cs:=[.AA []]) rfl (by simp) (Cj (Az (cs:=[AD k,SS n,AD i,a]) rfl rfl ?_)))
 have hs:B9 ⟨[[AD k,SS n,AD i,a],[.AA []],Z4],[]⟩:=by
  intro b hb;simp only[Av,Fs,FL] at hb;rcases hb with rfl|rfl|rfl <;> simp[AU,Aa,ha.Aa]
 obtain⟨r,h1,h2⟩:=V5 (R:=R) (p:=1) (.mk k n i ts) h hv 0 (by omega) _ hx' ⟨[[AD k,SS n,AD i,a],[.AA []],Z4],[]⟩ hs rfl;refine⟨r,_,h2 _,?_⟩;obtain⟨b,rfl,hb⟩:=h1;refine Ck (old:=Z4) (id:=2) rfl rfl rfl (by decide) (AM _) (by simp[hb.ok]) (.inl (AM _)) (Az (cs:=[AD k,SS n,AD i,b]) rfl rfl ?_);exact⟨.agg [AD k,SS n,AD i,b],by simp[hb.close],⟨b,rfl,hb⟩⟩
theorem aP {t:Ty} (h:size t<2 ^ 38) (hv:cw t=true) {x:AV} (hx:Bp t x):AW (env R) 70 [x] fun r=>Bp t r:=by
 obtain⟨k,n,i,ts⟩:=t;have hx':=hx;obtain⟨a,rfl,ha⟩:=hx;refine e70 (u0:=.agg [AD k,SS n,AD i,a]) (by simp[ha.close]) (AIk ?_);refine DY (cs:=[AD k,SS n,AD i,a]) rfl (by simp[ha.ok]) (Cj (Az (cs:=[AD k,SS n,AD i,a]) rfl rfl (AI (YK h hv hx') ?_)));rintro r ⟨b,rfl,hb⟩;refine Ck (old:=Z4) (id:=1) rfl rfl rfl (by decide) (AM _) (by simp[hb.ok]) (.inl (AM _)) (Az (cs:=[AD k,SS n,AD i,b]) rfl rfl ?_);exact⟨.agg [AD k,SS n,AD i,b],by simp[hb.close],⟨b,rfl,hb⟩⟩
end
theorem YL {n:Int} {s:AK} {K:AV->AK->Prop} (hK:K (.AA [[.sc (.int .i64 n)]]) s):D4 false s 1 [(AD 0)] 1 [(0,1,AD n)] K:=by
 simp[D4,Fh,B6];exact hK
theorem zC {L:A0} {s:AK} {a:AV} {l:List Int} {n:Int} {K:AV->AK->Prop} (ha:Ex 0 s.ts 3 a (A4 l)) (Fz:L.rt=0) (hl:l.length<2 ^ 40) (h:∀ a' ts',Ex 0 ts' 3 a' (A4 (l++[n]))->K a' ⟨s.bs,ts'⟩) :
  E1 false L s 3 1 8 a (.AA [[.sc (.int .i64 n)]]) K:=by
 have hl':=Dy l
 have:=Ma (L:=L) (bs:=s.bs) (ts:=[]) (x:=s.ts) (e:=3) (k:=1) (bytes:=8) (a:=a) (rows:=A4 l) (row:=[.sc (.int .i64 n)]) (K:=K) (by simpa using ha) (by omega) (by
  intro r hr;simp only[A4,Bb] at hr;obtain⟨_,_,rfl⟩:=hr;rfl) rfl (by omega) (by simp) (by omega) (by omega) (by
  intro a' x' Hs;have:=h a' x' (by simpa[A4] using Hs);simpa using this)
 simpa using this
theorem Gu {bs:List (List AV)} {n:Nat} (h:n<=bs.length) (b:List AV):(bs++[b]).take n=bs.take n:=OS h
theorem Dh {bs X:List (List AV)} {n j:Nat} {v:List AV} (h:bs.take n=X) (hj:X[j]?=some v):bs[j]?=some v:=by
 rw[<-h,CT] at hj;split at hj
 ·exact hj
 ·cases hj
theorem Gz {bs X:List (List AV)} {n j:Nat} {c:List AV} (h:bs.take n=X):(bs.set j c).take n=X.set j c:=by rw[<-h,Wx]
theorem YM {rr:Bool} {A:Nat} {c:List AV} {s0:AK} {bs:List (List AV)} {ts:List (Nat×Nat)} {Post:AV->AK->Prop} (h0:B9 s0) (hT:bs.take s0.bs.length=s0.bs.set A c) (hc:AU s0.bs.length c=true) (hP:Post (.tuple []) ⟨s0.bs.set A c,ts⟩):QM rr s0.bs.length Post (.tuple []) ⟨bs,ts⟩:=by
 refine Jj (ds:=[]) ?_ rfl ?_
 ·have:=B9.set h0 hc ts (j:=A)
  rw[Bs];intro b hb;have:=this b (by simpa[hT] using hb);simpa using this
 ·show Post _ ⟨bs.take _,ts⟩
  rw[hT];exact hP
section
variable {R:RT}
abbrev fA (A F:Nat):AV:=.func (.func 56) [] [.ptr A 0,.ptr F 0]
def qp (R:RT) (A F:Nat) (x:AV) (l m:List Int) (s:AK):Prop:=∀ (L:A0) (c:AV),L.ro=0->L.rt=0->s.bs[A]?=some [c]->Ex 0 s.ts 3 c (A4 l) ->
 ∃ v s',(∃ c' ts',Ex 0 ts' 3 c' (A4 (l++m))/\v=.tuple []/\s'=⟨s.bs.set A [c'],ts'⟩)/\BC (env R) L 56 [x,.ptr A 0,.ptr F 0] s v s'
theorem qt {A F:Nat} {ts:List Ty} {a:AV} (ha:BP a (AQ ts)) (hl:ts.length<2 ^ 38) {l:List Int} {s0:AK} (hs0:B9 s0) (hA:A<s0.bs.length) (hF:s0.bs[F]?=some [fA A F]) (hAF:A≠F)
  (ih:∀ t∈ts,∀ (l:List Int) (s:AK),B9 s->s.bs[F]?=some [fA A F]->l.length+(Ap t).length<2 ^ 40->qp R A F (.agg ((Ah t).map .pv)) l (Ap t) s)
  (hb:l.length+(CQ ts).length<2 ^ 40) {rr:Bool} {Post:AV->AK->Prop} (hP:∀ c' ts',Ex 0 ts' 3 c' (A4 (l++CQ ts))->Post (.tuple []) ⟨s0.bs.set A [c'],ts'⟩) :
  ∀ (j q:Nat) (done:List Int) (bs:List (List AV)) (tk:List (Nat×Nat)) (c:AV),q+j=ts.length->done++CQ (ts.drop q)=l++CQ ts->B9 ⟨bs,tk⟩->s0.bs.length<=bs.length->bs.take s0.bs.length=s0.bs.set A [c]->Ex 0 tk 3 c (A4 done) ->
   jS R 0 0 0 (.ptr F 0) a (AD ts.length) (AD q) ⟨bs,tk⟩ (QM rr s0.bs.length Post):=by
 intro j
 induction j with
 | zero=>
  intro q done bs tk c hi hd hs hn hT hc;refine AAy (BE ?_);rw[A9 (by omega)];rw[Cf (by omega),CQ,IC] at hd;refine BQ (YM hs0 hT (by simp[AU,hc.BG.Aa]) (hP c tk ?_));rw[<-hd];exact hc
 | succ j Gs=>
  intro q done bs tk c hi hd hs hn hT hc;refine AAy (BE ?_);rw[Au (by omega)];obtain⟨t,ht⟩:∃ t,ts[q]?=some t:=⟨_,Ak (by omega)⟩;have hrl:((Ah t).map AV.pv).length=4:=by rw[AZ,Am]
  have hro:=DZ t
  have L3:AU (bs.length+1) ((Ah t).map AV.pv)=true:=by
   obtain⟨k1,n1,i1,t1⟩:=t;simp[Ah,AU,Aa]
  refine BZ (AIl (CS ha (row:=Ah t) (by omega) (by simpa using CA ht) (Am _) (by omega) (EU (Cj ?_))));have qj:=ih t (BK ht);have hdr:ts.drop q=t::ts.drop (q+1):=drop_cons ht;rw[hdr,CQ,<-DI] at hd;have hdl:=BW List.length hd;simp only[Ab] at hdl;generalize (Ah t).map AV.pv=row at hrl hro L3 qj;refine Ck (Ay bs Z4) hrl rfl (by decide) (AM _) hro (.inl (AM _)) ?_;have e:(bs++[Z4]).set bs.length row=bs++[row]:=by simp
  rw[e];have gF:(s0.bs.set A [c])[F]?=some [fA A F]:=by rw[Cd (by omega)]; exact hF
  have gA:(s0.bs.set A [c])[A]?=some [c]:=by rw[EA (by omega)]
  have hs':B9 ⟨bs++[row],tk⟩:=B9.app (s:=⟨bs,tk⟩) hs L3;have jT:=(Gu hn row).trans hT;obtain⟨v,s',⟨c',ts',h1,rfl,rfl⟩,h3⟩:=qj done ⟨bs++[row],tk⟩ hs' (Dh jT gF) (by omega) (Ca (env R) 56 0 0 0) c rfl rfl (Dh jT gA) hc;refine Ax (A6 (Dh hT gF) row) rfl (Az (Ay bs row) hrl ⟨_,_,h3,AIm (Cr (by omega) (by omega) ?_)⟩);have hTs:=Gz (j:=A) (c:=[c']) jT;rw[E3] at hTs;exact Gs (q+1) (done++Ap t) _ ts' c' (by omega) hd (B9.set (s:=⟨bs++[row],tk⟩) hs' (by simp[AU,Aa,h1.BG.Aa]) _) (by simp; omega) hTs h1
mutual
theorem aQ {A F:Nat} (hAF:A≠F):∀ (t:Ty),size t<2 ^ 38->∀ (x:AV),Bp t x->∀ (l:List Int) (s:AK),B9 s->s.bs[F]?=some [fA A F]->l.length+(Ap t).length<2 ^ 40->qp R A F x l (Ap t) s
 | .mk k n i ts,h,x,hx,l,s,hs,hF,hb,L,c,hro,Fz,hA,hc=>by
  obtain⟨a,rfl,ha⟩:=hx;simp only[size] at h;rw[Ap] at hb ⊢;have lA:=(Ae.1 hA).1;have l5:=Cq ts;refine m56 (by simp[BN,Dl]) ?_;rw[hro,Fz];have hs1:B9 ⟨s.bs++[[AD k,SS n,AD i,a]],s.ts⟩:=B9.app hs (by simp[AU,Aa,ha.Aa]);have g:=Ay s.bs [AD k,SS n,AD i,a];refine AIn (DY (cs:=[AD k,SS n,AD i,a]) rfl (by simp[ha.ok]) (Aq (A7 g) (Ax g rfl (CC ?_))));have gA:=A6 hA [AD k,SS n,AD i,a];have same:s.bs.set A [c]=s.bs:=by rw[<-(Ae.1 hA).2]; exact HJ _
  have zD:(s.bs++[[AD k,SS n,AD i,a]]).take s.bs.length=s.bs.set A [c]:=by rw[same]; simp
  cases h5:(k==5) with
  | true=>
   rw[h5] at hb;refine BZ (Ax gA rfl (Aq (A7 g) (Ax g rfl (YL ⟨by decide,zC hc rfl (by simp at hb; omega) fun c' ts' Hl=>?_⟩))));refine Fl gA (by simp) Hl.BG.cells (AM _) Hl.BG.ok (.inl (AM _)) ?_;have hT:=Gz (j:=A) (c:=[c']) zD;rw[E3] at hT;exact YM hs hT (by simp[AU,Hl.BG.Aa]) ⟨c',ts',Hl,rfl,rfl⟩
  | false=>
   refine BQ (CC ?_);cases h3:(k==3) with
   | true=>
    rw[h5,h3] at hb;refine BZ (Aq (A7 g) (Ax g rfl (BS (n:=ts.length) (by rw[ha.Bk,Ad]) ?_)));exact qt (l:=l) ha (by omega) hs lA hF hAF (fun t hm l s hs hF hb=>V6 hAF ts (by omega) t hm l s hs hF hb) hb (fun c' ts' Hl=>⟨c',ts',Hl,rfl,rfl⟩) ts.length 0 l _ s.ts c (by omega) (by simp) hs1 (by simp) zD hc
   | false=>
    refine BQ (YM hs zD (by simp[AU,hc.BG.Aa]) ⟨c,s.ts,?_,rfl,rfl⟩);simpa using hc
theorem V6 {A F:Nat} (hAF:A≠F):∀ (ts:List Ty),Ac ts<2 ^ 38->∀ t∈ts,∀ (l:List Int) (s:AK),B9 s->s.bs[F]?=some [fA A F]->l.length+(Ap t).length<2 ^ 40->qp R A F (.agg ((Ah t).map .pv)) l (Ap t) s
 | [],_,_,h=>by cases h
 | e::l,h,t,hm=>by
  simp only[Ac] at h;rcases Av.1 hm with h' | h'
  ·rw[h']
   exact aQ hAF e (by omega) _ (Bp.Ci _)
  ·exact V6 hAF l (by omega) t h'
end
def K0 (b:Br):List PV:=.list (AQ b.bounds)::Ah b.body
def mC (b:Br) (x:AV):Prop:=∃ a y,x=.agg (a::y)/\BP a (AQ b.bounds)/\Bp b.body (.agg y)
theorem mC.Ci (b:Br):mC b (.agg ((K0 b).map .pv)):=⟨_,_,rfl,.list _,Bp.Ci _⟩
theorem jU {E:Env} {s:AK} {id:Nat} {a:AV} {cs:List AV} {K:AV->Prop} (hb:s.bs[id]?=some (a::cs)) (hk:cs.length=4) (h:K (.agg cs)):FA E s (some 4) (.ptr id 1) K:=by
 simp only[FA,hb,wO,DN,xL,xM,xF,xG];refine⟨by simp[hk],?_⟩
 show K (.agg (cs.take 4))
 rw[CL (by omega)];exact h
theorem Bp.cells {t:Ty} {y:List AV} (h:Bp t (.agg y)):y.length=4/\y.all Ar=true/\AU 0 y=true/\∀ bs n m,AN bs n m y=some y:=by
 obtain⟨k,n,i,ts⟩:=t;obtain⟨a,hy,ha⟩:=h;cases hy;exact⟨rfl,by simp[ha.ok],by simp[AU,Aa,ha.Aa],fun bs n m=>by simp[ha.close,AN,close]⟩
theorem N3 {b:Br} (h:size b.body<2 ^ 38) (hc:(Ap b.body).length<2 ^ 40) {x:AV} (hx:mC b x):AW (env R) 23 [x] fun r=>BP r (A4 (Ap b.body)):=by
 obtain⟨a,y,rfl,ha,hy⟩:=hx;obtain⟨h4,hok,hid,Bu⟩:=hy.cells;refine e23 (u0:=.agg (a::y)) (by simp[AN,close,ha.close,Bu]) (AIo ?_);refine DY (cs:=a::y) rfl (by simp[ha.ok]; simpa using hok) (Cj (Cj ?_));refine Fl (id:=2) (off:=0) (cs:=[.pv (.sc .nilFunc)]) rfl (by decide) rfl (AM _) rfl (.inl (AM _)) ?_;refine Ax (id:=2) rfl rfl (Aq (A7 (c:=a) (cs:=y) rfl) ?_)
 show FA _ _ _ (.ptr 0 1) _
 refine jU rfl h4 ?_
 have hs:B9 ⟨[a::y,[.AA []],[fA 1 2]],[]⟩:=by
  intro c hc;simp only[Av,Fs,FL] at hc;rcases hc with rfl|rfl|rfl
  ·exact CZ (AM _) _ (by simp[AU,ha.Aa,hid])
  ·rfl
  ·rfl
 obtain⟨v,s',⟨c',ts',h1,rfl,rfl⟩,h3⟩:=aQ (R:=R) (A:=1) (F:=2) (by decide) b.body h _ hy [] ⟨[a::y,[.AA []],[fA 1 2]],[]⟩ hs rfl (by simpa using hc) (Ca (env R) 23 0 0 0) (.AA []) rfl rfl rfl (.inl rfl);refine⟨_,_,h3,Ax (id:=1) rfl rfl ?_⟩;obtain⟨r,c1,c2⟩:=TQ h1 _ 0;exact⟨r,c1,by simpa using c2⟩
theorem PN {b:Br} (h:size b.body<2 ^ 38) (hl:b.bounds.length<2 ^ 38) (hc:(Ap b.body).length<2 ^ 40) {x:AV} (hx:mC b x):AW (env R) 46 [x] fun r=>r=BB (decide (b.bounds.length<=6)&&decide ((Ap b.body).length<=3)):=by
 have hx':=hx;obtain⟨a,y,rfl,ha,hy⟩:=hx;obtain⟨h4,hok,hid,Bu⟩:=hy.cells;refine e46 (u0:=.agg (a::y)) (by simp[AN,close,ha.close,Bu]) (AIp ?_);have g:∀ ts,(AK.mk [a::y] ts).bs[0]?=some (a::y):=fun _=>rfl
 refine DY (cs:=a::y) rfl (by simp[ha.ok]; simpa using hok) (Aq (A7 (g _)) (Ax (g _) rfl (BS (n:=b.bounds.length) (by rw[ha.Bk,Ad]) (YA ?_))))
 by_cases h6:b.bounds.length<=6
 ·rw[Au (by omega)]
  refine A8 (Az (g _) (by simp[h4]) (A8 (AI (N3 h hc hx') fun r hr=>A8 (BS (n:=(Ap b.body).length) (by rw[hr.Bk,Dy]) (A8 (YA (pk ?_)))))));refine⟨_,rfl,?_⟩;rw[Au h6];have:(((Ap b.body).length:Int)<=3)<->((Ap b.body).length<=3):=by omega
  simp[this]
 ·rw[A9 (by omega)]
  refine Cy (Cy (Cy (Cy (pk ⟨_,rfl,?_⟩))));rw[A9 h6];rfl
theorem Lh {s:AK} {p:PV} {K:AV->Prop} (hK:K (.pv p)):FA (env R) s none (.DK [p] 0) K:=by
 simpa using hK
def ixI (n:Int) (l:List Int):Int:=match l.findIdx? (·==n) with
 | some j=>j
 | none=>-1
theorem fB {l:List Int} {n:Int} (hl:l.length<2 ^ 40) {b:AV} (hb:BO b (A4 l)):AW (env R) 93 [b,AD n] fun r=>r=AD (ixI n l):=by
 obtain⟨a,Bu,ha⟩:=hb.closed [] 0;refine e93 (u0:=a) (u1:=AD n) (by simp[Bu,AN,close]) (AIq (BS (n:=l.length) (by rw[ha.Bk,Dy]) ?_))
 suffices H:∀ (j q:Nat),q+j=l.length->(∀ p,p<q->l[p]?≠some n)->jV R 0 0 0 a (AD n) (AD l.length) (AD q) ⟨[],[]⟩ (QP fun r=>r=AD (ixI n l)) from H l.length 0 (by omega) (fun p hp=>by omega)
 intro j
 induction j with
 | zero=>
  intro q hi hn;refine AAz (BE ?_);rw[A9 (by omega)];refine BQ (AIr ⟨_,rfl,?_⟩)
  have:l.findIdx? (·==n)=none:=by
   rw[LA];intro x hx;obtain⟨p,hp⟩:=XG hx;have:=hn p (by have:=(Ae.1 hp).1; omega);rw[hp] at this;simpa using this
  rw[ixI,this]
 | succ j Gs=>
  intro q hi hn;refine AAz (BE ?_);rw[Au (by omega)];obtain⟨m,hm⟩:∃ m,l[q]?=some m:=⟨_,Ak (by omega)⟩;refine BZ (AIs (CS ha (row:=[.sc (.int .i64 m)]) (by omega) (by simp[A4,hm]) rfl (by omega) ?_));refine Lh ?_;refine CC ?_;cases he:n==m with
  | true=>
   refine BZ ⟨_,rfl,?_⟩
   have:l.findIdx? (·==n)=some q:=by
    rw[XA];refine⟨by omega,?_,?_⟩
    ·have:=(Ae.1 hm).2
     rw[this];simp at he;simp[he]
    ·intro p hp
     have:=hn p hp;rw[Ak (by omega)] at this;simpa using this
   rw[ixI,this]
  | false=>
   refine BQ (AIt (Cr (by omega) (by omega) (Gs (q+1) (by omega) ?_)));intro p hp
   by_cases hpq:p=q
   ·rw[hpq,hm]
    simp at he;exact fun h=>he (EL h).symm
   ·exact hn p (by omega)
end
def tok:AV->Option Nat
 | .own t _=>some t
 | _=>none
def Ew (a a':AV) (ts ts':List (Nat×Nat)):Prop:=ts.length<=ts'.length/\(∀ t,t<ts.length->tok a≠some t->ts'[t]?=ts[t]?)/\(tok a'=tok a\/∃ t,tok a'=some t/\ts.length<=t)
theorem Ew.refl (a:AV) (ts:List (Nat×Nat)):Ew a a ts ts:=⟨AL _,fun _ _ _=>rfl,.inl rfl⟩
theorem Ew.trans {a b c:AV} {ts tu tv:List (Nat×Nat)} (h:Ew a b ts tu) (k:Ew b c tu tv):Ew a c ts tv:=by
 obtain⟨h1,h2,h3⟩:=h;obtain⟨k1,k2,k3⟩:=k;refine⟨Bh h1 k1,fun t ht ha=>?_,?_⟩
 ·rw[k2 t (by omega) ?_,h2 t ht ha]
  intro hb;rcases h3 with h3|⟨u,h3,h4⟩
  ·rw[h3] at hb
   exact ha hb
  ·rw[h3] at hb
   cases hb;omega
 ·rcases k3 with k3|⟨u,k3,k4⟩
  ·rw[k3]
   exact h3
  ·exact .inr ⟨u,k3,by omega⟩
def ES (b:AV) (ts:List (Nat×Nat)):Prop:=∀ t,tok b=some t->ts.length<=t
theorem ES.V7 {b b':AV} {ts0 ts ts':List (Nat×Nat)} (h:ES b ts0) (hc:Ew b b' ts ts') (hl:ts0.length<=ts.length):ES b' ts0:=by
 intro t ht;rcases hc.2.2 with h1|⟨u,h1,h2⟩
 ·exact h t (by rw[<-h1,ht])
 ·rw[h1] at ht
  cases ht;omega
theorem Ew.side {a a' b b':AV} {ts0 ts ts':List (Nat×Nat)} (h:Ew a a' ts0 ts) (k:Ew b b' ts ts') (hb:ES b ts0):Ew a a' ts0 ts':=by
 obtain⟨h1,h2,h3⟩:=h;obtain⟨k1,k2,k3⟩:=k;refine⟨Bh h1 k1,fun t ht ha=>?_,h3⟩;rw[k2 t (by omega) fun hb'=>?_,h2 t ht ha];have:=hb t hb';omega
def RR (a b:AV):Prop:=∀ t,tok a=some t->tok b≠some t
theorem RR.symm {a b:AV} (h:RR a b):RR b a:=fun t h1 h2=>h t h2 h1
theorem Ex.qu {lo:Nat} {ts:List (Nat×Nat)} {k:Nat} {a:AV} {rows:List (List PV)} (h:Ex lo ts k a rows) {t:Nat} (ht:tok a=some t):t<ts.length:=by
 rcases h with rfl|⟨u,rfl,h1,_⟩
 ·cases ht
 ·cases ht
  exact(Ae.1 h1).1
theorem RR.V7 {a a' b:AV} {lo k:Nat} {ts ts':List (Nat×Nat)} {rows:List (List PV)} (h:RR a b) (hc:Ew a a' ts ts') (hb:Ex lo ts k b rows):RR a' b:=by
 intro t ht hbt;rcases hc.2.2 with h1|⟨u,h1,h2⟩
 ·exact h t (by rw[<-h1,ht]) hbt
 ·rw[h1] at ht
  cases ht;have:=Ex.qu hb hbt;omega
theorem Ew.keep {a a' b:AV} {lo k:Nat} {ts ts':List (Nat×Nat)} {rows:List (List PV)} (hc:Ew a a' ts ts') (hb:Ex lo ts k b rows) (h:RR a b):Ex lo ts' k b rows:=by
 rcases hb with rfl|⟨t,rfl,h1,h2⟩
 ·exact .inl rfl
 ·refine .inr ⟨t,rfl,?_,h2⟩
  rw[hc.2.1 t (Ae.1 h1).1 fun ha=>h t ha rfl];exact h1
theorem RR.AA (a:AV) (rows:List (List PV)):RR a (.AA rows):=fun _ _ h=>by cases h
theorem ES.AA (ts:List (Nat×Nat)) (rows:List (List PV)):ES (.AA rows) ts:=fun _ h=>by cases h
theorem YN {L:A0} {s:AK} {e:Nat} {k bytes:Nat} {a y:AV} {rows m:List (List PV)} {K:AV->AK->Prop} (ha:Ex 0 s.ts e a rows) (Fz:L.rt=0) (hrows:∀ r∈rows,r.length=k) (hm:∀ r∈m,r.length=k) (hk:0<k)
  (hy:C8 s k y=some (m.flatten.map .pv)) (hok:(m.flatten.map AV.pv).all Ar=true) (hb:(rows.length+m.length)*bytes<=2 ^ 45) (MA:rows.length+m.length<=2 ^ 45)
  (h:∀ a' ts',Ex 0 ts' e a' (rows++m)->Ew a a' s.ts ts'->K a' ⟨s.bs,ts'⟩):E1 false L s e k bytes a y K:=by
 obtain⟨bs,ts⟩:=s
 have hall:(rows.all fun r=>r.length==k)=true:=by
  rw[Bs];intro r hr;simpa using hrows r hr
 unfold E1;rw[hy];have hfl:=Mb m hm;have hby:=GI m hm;cases hc:m.flatten with
 | nil=>
  have hm0:m=[]:=by
   cases m with
   | nil=>rfl
   | cons r m=>
    rw[hc] at hfl;simp only[BV,A3] at hfl;have:0<(m.length+1)*k:=Nat.mul_pos (by omega) hk;omega
  subst hm0;have:=h a ts (by simpa using ha) (Ew.refl _ _);rcases ha with rfl|⟨t,rfl,h1,h2⟩ <;> simpa[wO,rowsOf] using this
 | cons c cs=>
  have hmap:m.flatten.map AV.pv=.pv c::cs.map .pv:=by rw[hc]; rfl
  have hl:(AV.pv c::cs.map .pv).length / k=m.length:=by
   rw[<-hmap,AZ,hfl,Rb _ hk]
  have xm:Cn (AV.pv c::cs.map .pv)=some m.flatten:=by rw[<-hmap]; exact K1 _
  rw[hmap] at hok;simp only[wO,CI,hok,hl,xm,hby];refine⟨Al,?_⟩;rcases ha with rfl|⟨t,rfl,h1,h2⟩
  ·refine⟨⟨hb,MA,hall⟩,?_⟩
   refine h (.own ts.length (rows++m)) (ts++[(rows.length+m.length,e)]) (.inr ⟨_,rfl,by rw[OX]; simp,AM _⟩) ⟨by simp,fun t ht _=>?_,.inr ⟨_,rfl,AL _⟩⟩;rw[BA ht]
  ·refine⟨⟨hb,MA,h1,by omega,hall⟩,?_⟩
   have hlt:t<ts.length:=(Ae.1 h1).1;refine h (.own t (rows++m)) (ts.set t (rows.length+m.length,e)) (.inr ⟨_,rfl,by rw[EA hlt]; simp,h2⟩) ⟨by simp,fun u hu hn=>?_,.inl rfl⟩;rw[Cd];intro htu;exact hn (by rw[htu]; rfl)
theorem mD (t:Ty):(([Ah t].flatten).map AV.pv).all Ar=true:=by simpa using DZ t
theorem M6 {L:A0} {s:AK} {a:AV} {es:List Ty} {t:Ty} {K:AV->AK->Prop} (ha:Ex 0 s.ts 25 a (AQ es)) (Fz:L.rt=0) (hl:es.length<2 ^ 38) (h:∀ a' ts',Ex 0 ts' 25 a' (AQ (es++[t]))->Ew a a' s.ts ts'->K a' ⟨s.bs,ts'⟩) :
  E1 false L s 25 4 56 a (.AA [Ah t]) K:=by
 have hl':=Ad es;have hm:∀ r∈[Ah t],r.length=4:=by simp[Am]
 refine YN (m:=[Ah t]) ha Fz (fun r hr=>HB hr) hm (by omega) (IU (.inl (.AA _)) hm) (mD t) (by simp; omega) (by simp; omega) fun a' ts' h1 h2=>h a' ts' ?_ h2
 simpa[FY,AQ] using h1
theorem qv {L:A0} {s:AK} {a:AV} {l:List Int} {n:Int} {K:AV->AK->Prop} (ha:Ex 0 s.ts 3 a (A4 l)) (Fz:L.rt=0) (hl:l.length<2 ^ 40) (h:∀ a' ts',Ex 0 ts' 3 a' (A4 (l++[n]))->Ew a a' s.ts ts'->K a' ⟨s.bs,ts'⟩) :
  E1 false L s 3 1 8 a (.AA [[.sc (.int .i64 n)]]) K:=by
 have hl':=Dy l;have hm:∀ r∈[[PV.sc (.int .i64 n)]],r.length=1:=by simp
 refine YN (m:=[[.sc (.int .i64 n)]]) ha Fz aR hm (by omega) (IU (.inl (.AA _)) hm) (by simp) (by simp; omega) (by simp; omega) fun a' ts' h1 h2=>h a' ts' ?_ h2
 simpa[A4] using h1
theorem jW {rr:Bool} {A:Nat} {c:List AV} {cs ds:List AV} {s0:AK} {bs:List (List AV)} {ts:List (Nat×Nat)} {Post:AV->AK->Prop} (h0:B9 s0) (hT:bs.take s0.bs.length=s0.bs.set A c) (hc:AU s0.bs.length c=true) (Bu:AN bs s0.bs.length ts.length cs=some ds) (hP:Post (.agg ds) ⟨s0.bs.set A c,ts⟩):QM rr s0.bs.length Post (.agg cs) ⟨bs,ts⟩:=by
 refine fC (ds:=ds) ?_ Bu ?_
 ·have:=B9.set h0 hc ts (j:=A)
  rw[Bs];intro b hb;have:=this b (by simpa[hT] using hb);simpa using this
 ·show Post _ ⟨bs.take _,ts⟩
  rw[hT];exact hP
theorem Ff {bs:List (List AV)} {n j:Nat} {c:List AV} (h:n<=j):(bs.set j c).take n=bs.take n:=by
 rw[Wx,List.set_eq_of_length_le];rw[DU];omega
theorem Ba.M7 {v:Ty} {cs:List AV} (h:Ba v (.agg cs)) (bs:List (List AV)) (n m:Nat):∃ ds,AN bs n m cs=some ds/\Ba v (.agg ds):=by
 obtain⟨k,c,i,ts⟩:=v;obtain⟨a,hcs,ha⟩:=h;cases hcs;obtain⟨a',h1,h2⟩:=ha.close bs n m;exact⟨[AD k,SS c,AD i,a'],by simp[AN,close,h1],⟨a',rfl,h2⟩⟩
abbrev fD (o:List Nat):List Int:=o.map fun(x:Nat)=>(x:Int)
theorem zE (o:List Nat) {i:Int} (h:0<=i):ixI i (fD o)=match o.findIdx? (·==i.toNat) with
  | some j=>(j:Int)
  | none=>-1:=by
 rw[ixI,List.findIdx?_map]
 have:((fun x:Int=>x==i)∘fun x:Nat=>(x:Int))=fun x:Nat=>x==i.toNat:=by
  funext x
  show((x:Int)==i)=(x==i.toNat)
  rw[C0];simp only[Dv];omega
 rw[this] <;> rfl
section
variable {R:RT}
abbrev aS (P A F:Nat):AV:=.func (.func 91) [] [.ptr P 0,.ptr A 0,.ptr F 0]
structure U0 (P A F e:Nat) (B:List Ty) (bs:List (List AV)):Prop where
 hP:bs[P]?=some [.ptr e 0]
 hF:bs[F]?=some [aS P A F]
 he:∃ c cs,bs[e]?=some (c::cs)/\BO c (AQ B)
 nP:A≠P
 nF:A≠F
 ne:A≠e
theorem U0.of {P A F e:Nat} {B:List Ty} {bs bs':List (List AV)} (h:U0 P A F e B bs) (hk:∀ j c,j≠A->bs[j]?=some c->bs'[j]?=some c):U0 P A F e B bs':=by
 obtain⟨c,cs,h1,h2⟩:=h.he;exact⟨hk _ _ h.nP.symm h.hP,hk _ _ h.nF.symm h.hF,⟨c,cs,hk _ _ h.ne.symm h1,h2⟩,h.nP,h.nF,h.ne⟩
theorem U0.tk {P A F e n:Nat} {B:List Ty} {bs bs':List (List AV)} {c:List AV} (h:U0 P A F e B bs) (hT:bs'.take n=bs.set A c):U0 P A F e B bs':=
 h.of fun j d hj hd=>Dh hT (by rw[Cd (by omega)]; exact hd)
def qw (R:RT) (P A F N:Nat) (x:AV) (o:List Nat) (t:Ty) (s:AK):Prop:=∀ (L:A0) (c:AV),L.ro=0->L.rt=0->s.bs[A]?=some [c]->Ex 0 s.ts 3 c (A4 (fD o)) ->
 ∃ v s',(∃ c' ts' ds,Ex 0 ts' 3 c' (A4 (fD (Lb N t o).2))/\Ew c c' s.ts ts'/\v=.agg ds/\Ba (ren (Lb N t o).1) (.agg ds)/\s'=⟨s.bs.set A [c'],ts'⟩)/\BC (env R) L 91 [x,.ptr P 0,.ptr A 0,.ptr F 0] s v s'
theorem qx {P A F e N:Nat} {B ts:List Ty} (hN:B.length=N) {a:AV} (ha:BP a (AQ (Bx ts))) (hl:ts.length<2 ^ 38) {k i:Int} {n:List UInt8} (hk7:k≠7) {o0:List Nat} {c0:AV} {s0:AK} (hs0:B9 s0) (hA:A<s0.bs.length) (hE:U0 P A F e B s0.bs)
  (ih:∀ t∈ts,∀ (o:List Nat) (s:AK),B9 s->U0 P A F e B s.bs->o.length+size t<2 ^ 40->qw R P A F N (.agg ((Ah (ren t)).map .pv)) o t s)
  (hlen:∀ t∈ts,∀ o,(Lb N t o).2.length<=o.length+size t) (hb:o0.length+Ac ts<2 ^ 40) {rr:Bool} {Post:AV->AK->Prop}
  (hP:∀ c' ts' ds,Ex 0 ts' 3 c' (A4 (fD (Gy N ts o0).2))->Ew c0 c' s0.ts ts'->Ba (.mk k n i (Bx (Gy N ts o0).1)) (.agg ds)->Post (.agg ds) ⟨s0.bs.set A [c'],ts'⟩) :
  ∀ (j q:Nat) (o:List Nat) (done:List Ty) (bs:List (List AV)) (tk:List (Nat×Nat)) (b c:AV),q+j=ts.length->done++(Gy N (ts.drop q) o).1=(Gy N ts o0).1->(Gy N (ts.drop q) o).2=(Gy N ts o0).2->done.length=q->o.length+Ac (ts.drop q)<=o0.length+Ac ts ->
   B9 ⟨bs,tk⟩->bs.take s0.bs.length=s0.bs.set A [c]->bs[s0.bs.length]?=some [AD k,SS n,AD i,a]->bs[s0.bs.length+1]?=some Z4->bs[s0.bs.length+2]?=some [AD k,SS n,AD i,b] ->
   Ex 0 tk 3 c (A4 (fD o))->Ex 0 tk 25 b (AQ (Bx done))->Ew c0 c s0.ts tk->ES b s0.ts->RR c b ->
   jX R 0 0 0 (.ptr F 0) (.ptr (s0.bs.length+1) 0) (.ptr (s0.bs.length+2) 0) a (AD ts.length) (AD q) ⟨bs,tk⟩ (QM rr s0.bs.length Post):=by
 have l5:=Cq ts;intro j
 induction j with
 | zero=>
  intro q o done bs tk b c hi wS Ru hdl ho hs hT h0 h1 h2 hc VM hC hfr HX;refine AA0 (BE ?_);rw[A9 (by omega)];rw[Cf (by omega),Gy,IC] at wS;rw[Cf (by omega),Gy] at Ru;simp only at wS Ru;rw[wS] at VM;rw[Ru] at hc;refine BQ (AIu (Az h2 rfl (Ck h1 rfl rfl (by decide) (AM _) (by simp[VM.BG.ok]) (.inl (AM _)) (Az (DH h1) rfl ?_))));obtain⟨ds,c1,c2⟩:=Ba.M7 (v:=.mk k n i (Bx (Gy N ts o0).1)) (cs:=[AD k,SS n,AD i,b]) ⟨b,rfl,VM.BG⟩ (bs.set (s0.bs.length+1) [AD k,SS n,AD i,b]) s0.bs.length tk.length;exact jW hs0 ((Ff (by omega)).trans hT) (by simp[AU,hc.BG.Aa]) c1 (hP c tk ds hc hC c2)
 | succ j Gs=>
  intro q o done bs tk b c hi wS Ru hdl ho hs hT h0 h1 h2 hc VM hC hfr HX;refine AA0 (BE ?_);rw[Au (by omega)];obtain⟨t,ht⟩:∃ t,ts[q]?=some t:=⟨_,Ak (by omega)⟩;have Fz:(Bx ts)[q]?=some (ren t):=by rw[Bf]; simp[ht]
  have dy:=BK ht;have hrl:((Ah (ren t)).map AV.pv).length=4:=by rw[AZ,Am]
  have hro:=DZ (ren t)
  have L3:AU (bs.length+1) ((Ah (ren t)).map AV.pv)=true:=by
   obtain⟨k1,n1,i1,t1⟩:=ren t;simp[Ah,AU,Aa]
  refine BZ (AIv (CS ha (row:=Ah (ren t)) (by omega) (by simpa using CA Fz) (Am _) (by omega) (EU (Cj ?_))));have qj:=ih t dy;have hdr:ts.drop q=t::ts.drop (q+1):=drop_cons ht;rw[hdr,Gy] at wS Ru;rw[hdr,Ac] at ho;generalize (Ah (ren t)).map AV.pv=row at hrl hro L3 qj;refine Ck (Ay bs Z4) hrl rfl (by decide) (AM _) hro (.inl (AM _)) ?_;have e:(bs++[Z4]).set bs.length row=bs++[row]:=by simp
  rw[e];have l2:=(Ae.1 h2).1;have OH:s0.bs.length<=bs.length:=by omega
  have jT:=(Gu OH row).trans hT;have hs':B9 ⟨bs++[row],tk⟩:=B9.app (s:=⟨bs,tk⟩) hs L3;have gA:(s0.bs.set A [c])[A]?=some [c]:=by rw[EA (by omega)]
  have gF:(s0.bs.set A [c])[F]?=some [aS P A F]:=by rw[Cd hE.nF]; exact hE.hF
  obtain⟨v,s',⟨c',ts',ds,r1,r2,rfl,r4,rfl⟩,r6⟩:=qj o ⟨bs++[row],tk⟩ hs' (hE.tk jT) (by omega) (Ca (env R) 91 0 0 0) c rfl rfl (Dh jT gA) hc;have g1:=A6 h1 row;have g2:=A6 h2 row;have g0:=A6 h0 row;have g2':((bs++[row]).set A [c'])[s0.bs.length+2]?=some [AD k,SS n,AD i,b]:=Cs g2 (by omega);refine Aq (A7 g2) (Ax g2 rfl (Ax (A6 (Dh hT gF) row) rfl (Az (Ay bs row) hrl ⟨_,_,r6,Iu r4 ⟨by decide,M6 (r2.keep VM HX) rfl ?_ ?_⟩⟩)))
  ·rw[Bf,AZ]
   omega
  ·intro b' Lg hb' Hl
   have er:Bx done++[ren (Lb N t o).1]=Bx (done++[(Lb N t o).1]):=by simp[Bf]
   rw[er] at hb';refine Aq (A7 g2') (Fl g2' (by simp) hb'.BG.cells (AM _) hb'.BG.ok (.inl (AM _)) ?_);refine⟨Aq (A7 g2') (HR _ _),Ax g2' rfl (Kw VM),AIx (Cr (by omega) (by omega) ?_)⟩;have AA1:RR b c':=(HX.V7 r2 VM).symm
   have hTs:(((bs++[row]).set A [c']).set (s0.bs.length+2) [AD k,SS n,AD i,b']).take s0.bs.length=s0.bs.set A [c']:=by
    rw[Ff (by omega),Gz (c:=[c']) jT,E3]
   have hs2:B9 ⟨(bs++[row]).set A [c'],ts'⟩:=B9.set (s:=⟨bs++[row],tk⟩) hs' (by simp[AU,Aa,r1.BG.Aa]) _;have:=hlen t dy o
   have fin:=Gs (q+1) (Lb N t o).2 (done++[(Lb N t o).1]) _ Lg b' c' (by omega) (by simpa using wS) Ru (by simp[hdl]) (by omega)
    (B9.set (s:=⟨(bs++[row]).set A [c'],ts'⟩) hs2 (by simp[AU,Aa,hb'.BG.Aa]) _) hTs (Cs (Cs g0 (by omega)) (by omega)) (Cs (Cs g1 (by omega)) (by omega)) (DH g2')
    (Hl.keep r1 AA1) hb' ((hC.trans r2).side Hl hfr) (hfr.V7 Hl (Bh hC.1 r2.1)) (AA1.V7 Hl r1).symm
   simpa using fin
end
mutual
theorem R2 (N:Nat):∀ (t:Ty) (o:List Nat),(Lb N t o).2.length<=o.length+size t
 | .mk k n i ts,o=>by
  have:=aU N ts o;rw[Lb,size];cases k==7&&decide (i<N) with
  | true=>
   simp only[AE];split
   ·simp only; omega
   ·simp
  | false=>
   simp only[AB];omega
theorem aU (N:Nat):∀ (l:List Ty) (o:List Nat),(Gy N l o).2.length<=o.length+Ac l
 | [],_=>DT _ _
 | t::l,o=>by
  have h1:=R2 N t o;have h2:=aU N l (Lb N t o).2;rw[Gy,Ac];simp only;omega
end
section
variable {R:RT}
mutual
theorem aV (hn:TC R) {P A F e N:Nat} {B:List Ty} (hN:B.length=N) (jY:N<=2 ^ 40):∀ (t:Ty),size t<2 ^ 38->H6 N t=true->∀ (x:AV),Bp (ren t) x->∀ (o:List Nat) (s:AK),B9 s->U0 P A F e B s.bs->o.length+size t<2 ^ 40->qw R P A F N x o t s
 | .mk k n i ts,h,ht,x,hx,o,s,hs,hE,hb,L,c,hro,Fz,hA,hc=>by
  have lA:=(Ae.1 hA).1;have l5:=Cq ts;have aW:=KV hn jY ht hx;rw[H6] at ht;simp only[size] at h hb;refine m91 (by simp[BN,Dl]) ?_;rw[hro,Fz];have same:s.bs.set A [c]=s.bs:=by rw[<-(Ae.1 hA).2]; exact HJ _
  by_cases h7:k=7
  ·subst h7
   simp only[BH,AE,AG,IM,BT] at ht;obtain⟨hts,hi0,hiN⟩:=ht;subst hts;have er:ren (.mk 7 n i [])=.mk 2 (36::GH i.toNat) 0 []:=rfl;rw[er] at hx;obtain⟨a,rfl,ha⟩:=hx;generalize (36::GH i.toNat)=nm at aW;have g:=A6 (Ay s.bs [AD 2,SS nm,AD 0,a]) Z4;have gz:=Ay (s.bs++[[AD 2,SS nm,AD 0,a]]) Z4;have gA:=A6 (A6 hA [AD 2,SS nm,AD 0,a]) Z4;have gP:=A6 (A6 hE.hP [AD 2,SS nm,AD 0,a]) Z4;obtain⟨d,ds,he,hd⟩:=hE.he;have ge:=A6 (A6 he [AD 2,SS nm,AD 0,a]) Z4;have zD:(s.bs++[[AD 2,SS nm,AD 0,a]]++[Z4]).take s.bs.length=s.bs.set A [c]:=by rw[same]; simp
   have el:(s.bs++[[AD 2,SS nm,AD 0,a]]).length=s.bs.length+1:=by simp
   refine AA2 (DY (cs:=[AD 2,SS nm,AD 0,a]) rfl (by simp[ha.ok]) (Cj ?_));simp only[el];rw[el] at gz;generalize Xq:s.bs++[[AD 2,SS nm,AD 0,a]]++[Z4]=bs at g gz gA gP ge zD;refine Az g rfl (AI aW ?_);rintro _ rfl;refine Bq rfl (Bq rfl (A8 (A8 (Ax gP rfl (A8 (GG (A7 ge) (A8 (Aq (A7 ge) (A8 (Ax ge rfl (A8 (BS (n:=N) (by rw[hd.Bk,Ad,hN]) (A8 (BE (pk ?_)))))))))))))));rw[Au (by omega)];refine BZ (Ax gA rfl (AI (fB (l:=fD o) (by simpa using(by omega:o.length<2 ^ 40)) hc.BG) ?_));rintro _ rfl;rw[zE o hi0]
   have hcv:(Lb N (.mk 7 n i []) o)=match o.findIdx? (·==i.toNat) with
     | some j=>(var j,o)
     | none=>(var o.length,o++[i.toNat]):=by
    have:((7:Int)==7&&decide (i<N))=true:=by simp[hiN]
    rw[Lb,this];rfl
   rw[hcv]
   have fin:∀ (j:Int) (c':AV) (ts':List (Nat×Nat)) (bs':List (List AV)) (Post:AV->AK->Prop),Aa s.bs.length c'=true->bs'.take s.bs.length=s.bs.set A [c']->bs'[s.bs.length+1]?=some Z4->(∀ ds,Ba (ren (var j)) (.agg ds)->Post (.agg ds) ⟨s.bs.set A [c'],ts'⟩) ->
     jZ R 0 0 0 (.ptr (s.bs.length+1) 0) (AD j) ⟨bs',ts'⟩ (QM (L.rr 91) s.bs.length Post):=by
    intro j c' ts' bs' Post hid hT hz hP;refine AIy (Q7 (cs:=[AD 5,SS [],AD j,.AA []]) rfl (Ck hz rfl rfl (by decide) (AM _) rfl (.inl (AM _)) (Az (DH hz) rfl ?_)));exact jW hs ((Ff (by omega)).trans hT) (by simp[AU,hid]) rfl (hP _ ⟨_,rfl,.inl (.AA _)⟩)
   cases hf:o.findIdx? (·==i.toNat) with
   | some j=>
    refine BE ?_;rw[A9 (by simp only; omega)];exact BQ (fin j c s.ts bs _ (hc.BG.Aa _) zD gz fun ds hds=>⟨c,s.ts,ds,hc,Ew.refl _ _,rfl,hds,rfl⟩)
   | none=>
    refine BE ?_;rw[Au (by simp)];refine BZ (Ax gA rfl (BS (n:=o.length) (by rw[hc.BG.Bk,Dy,AZ]) (Ax gA rfl (YL ⟨by decide,qv hc rfl (by simpa using(by omega:o.length<2 ^ 40)) fun c' ts' Hl hch=>?_⟩))));refine Fl gA (by simp) Hl.BG.cells (AM _) Hl.BG.ok (.inl (AM _)) ?_;have hT:=Gz (j:=A) (c:=[c']) zD;rw[E3] at hT;have hi:((i.toNat:Nat):Int)=i:=by omega
    refine⟨Ax gA rfl (by rcases hc with rfl|⟨t,rfl,_⟩ <;> simp[Tel.Cu,Sv]),BS (n:=o.length) (by rw[hc.BG.Bk,Dy,AZ]) (by simp[Tel.Cu,VF,JE]),?_⟩;refine fin o.length c' ts' _ _ (Hl.BG.Aa _) hT (Cs gz (by omega)) fun ds hds=>⟨c',ts',ds,?_,hch,rfl,hds,rfl⟩
    simpa[hi] using Hl
  ·have b7:(k==7)=false:=by simpa using h7
   have er:=Gt k n i ts h7;rw[er] at hx;rw[b7] at ht aW;simp only[AB,AG] at ht aW;obtain⟨a,rfl,ha⟩:=hx;obtain⟨g0,g1,g2⟩:=Ii (s:=s) (c:=[AD k,SS n,AD i,a]) (d:=[AD k,SS n,AD i,.AA []]);have gx:=A6 (Ay s.bs [AD k,SS n,AD i,a]) Z4
   have hcv:Lb N (.mk k n i ts) o=(.mk k n i (Gy N ts o).1,(Gy N ts o).2):=by
    rw[Lb,b7];rfl
   rw[hcv];refine AA2 (DY (cs:=[AD k,SS n,AD i,a]) rfl (by simp[ha.ok]) (Cj (Az gx rfl (AI aW ?_))));rintro _ rfl;refine Bq rfl (Bq rfl (Cy (Cy (Cy (Cy (Cy (Cy (Cy (pk (BQ (AIz (Az gx rfl (Cj ?_)))))))))))));refine Ck (old:=Z4) (Ay _ _) rfl rfl (by decide) (AM _) (by simp[ha.ok]) (.inl (AM _)) ?_;have e:((s.bs++[[AD k,SS n,AD i,a]]++[Z4]++[Z4]).set (s.bs++[[AD k,SS n,AD i,a]]++[Z4]).length [AD k,SS n,AD i,a])=(FC s [AD k,SS n,AD i,a] [AD k,SS n,AD i,a]).bs:=by simp[FC,cellsOf]
   have l1:(s.bs++[[AD k,SS n,AD i,a]]++[Z4]).length=s.bs.length+2:=by simp
   have l2:(s.bs++[[AD k,SS n,AD i,a]]).length=s.bs.length+1:=by simp
   simp only at e l1 l2 ⊢;rw[e];simp only[l1,l2];obtain⟨_,_,q2⟩:=Ii (s:=s) (c:=[AD k,SS n,AD i,a]) (d:=[AD k,SS n,AD i,a]);refine Aq (A7 q2) (Fl (off:=3) q2 (AL 4) rfl (AM _) rfl (.inl (AM _)) ?_)
   have e2:(FC s [AD k,SS n,AD i,a] [AD k,SS n,AD i,a]).bs.set (s.bs.length+2) ([AD k,SS n,AD i,a].set 3 (.AA []))=(FC s [AD k,SS n,AD i,a] [AD k,SS n,AD i,.AA []]).bs:=by
    have:(FC s [AD k,SS n,AD i,a] [AD k,SS n,AD i,a]).bs=(s.bs++[[AD k,SS n,AD i,a]]++[Z4])++[[AD k,SS n,AD i,a]]:=rfl;rw[this,LC _ _ (by simp)];simp[FC]
   show Bo ⟨(FC s [AD k,SS n,AD i,a] [AD k,SS n,AD i,a]).bs.set (s.bs.length+2) ([AD k,SS n,AD i,a].set 3 (.AA [])),s.ts⟩ _ _ _
   rw[e2];refine Aq (A7 g0) (Ax g0 rfl (BS (n:=ts.length) (by rw[ha.Bk,Ad,Bf,AZ]) ?_));have zD:(FC s [AD k,SS n,AD i,a] [AD k,SS n,AD i,.AA []]).bs.take s.bs.length=s.bs.set A [c]:=by rw[same]; simp[FC]
   refine qx hN ha (by omega) h7 (o0:=o) (c0:=c) hs lA hE (fun t hm o s hs hE hb=>V8 hn hN jY ts (by omega) ht.2.2 t hm o s hs hE hb) (fun t _ o=>R2 N t o) (by omega) (fun c' ts' ds h1 h2 h3=>⟨c',ts',ds,h1,h2,rfl,?_,rfl⟩) ts.length 0 o [] _ s.ts (.AA []) c (by omega) (by simp) (by simp) rfl (by simp)
    (R1 hs (by simp[AU,Aa,ha.Aa]) (by simp[AU,Aa])) zD g0 g1 g2 hc (.inl rfl) (Ew.refl _ _) (ES.AA _ _) (RR.AA _ _)
   rw[Gt k n i _ h7];exact h3
theorem V8 (hn:TC R) {P A F e N:Nat} {B:List Ty} (hN:B.length=N) (jY:N<=2 ^ 40):∀ (ts:List Ty),Ac ts<2 ^ 38->I0 N ts=true->∀ t∈ts,∀ (o:List Nat) (s:AK),B9 s->U0 P A F e B s.bs->o.length+size t<2 ^ 40->qw R P A F N (.agg ((Ah (ren t)).map .pv)) o t s
 | [],_,_,_,h=>by cases h
 | u::l,h,ht,t,hm=>by
  simp only[Ac] at h;simp only[I0,AG] at ht;rcases Av.1 hm with h' | h'
  ·rw[h']
   exact aV hn hN jY u (by omega) ht.1 _ (Bp.Ci _)
  ·exact V8 hn hN jY l (by omega) ht.2 t h'
end
end
mutual
theorem fE {N:Nat}:∀ (t:Ty) (o:List Nat),H6 N t=true->(∀ x∈o,x<N)->∀ x∈(Lb N t o).2,x<N
 | .mk k n i ts,o,h,ho=>by
  rw[H6] at h;rw[Lb];cases h7:(k==7) with
  | true=>
   rw[h7] at h;simp only[AE,AG,BT] at h;simp only[Ec,h.2.2,Rn,AE];split
   ·exact ho
   ·intro x hx
    simp only[BL,Bj] at hx;rcases hx with hx|rfl
    ·exact ho x hx
    ·omega
  | false=>
   rw[h7] at h;simp only[AB,AG] at h;exact ja ts o h.2.2 ho
theorem ja {N:Nat}:∀ (l:List Ty) (o:List Nat),I0 N l=true->(∀ x∈o,x<N)->∀ x∈(Gy N l o).2,x<N
 | [],_,_,ho=>ho
 | t::l,o,h,ho=>by
  simp only[I0,AG] at h;exact ja l _ h.2 (fE t o h.1 ho)
end
mutual
theorem jb {N:Nat}:∀ (t:Ty) (o:List Nat),H6 N t=true->ren (Lb N t o).1=(Lb N t o).1
 | .mk k n i ts,o,h=>by
  rw[H6] at h;rw[Lb];cases h7:(k==7) with
  | true=>
   rw[h7] at h;simp only[AE,AG,BT] at h;simp only[Ec,h.2.2,Rn,AE];split <;> rfl
  | false=>
   rw[h7] at h;simp only[AB,AG] at h;simp only[E2,AB];rw[Gt _ _ _ _ (by simpa using h7),aX ts o h.2.2]
theorem aX {N:Nat}:∀ (l:List Ty) (o:List Nat),I0 N l=true->Bx (Gy N l o).1=(Gy N l o).1
 | [],_,_=>rfl
 | t::l,o,h=>by
  simp only[I0,AG] at h;simp only[Gy,Bx,jb t o h.1,aX l _ h.2]
end
theorem Gj {l m:List (List AV)} {j n:Nat} {v:List AV} (hn:l.length=n) (h:m[j]?=some v):(l++m)[n+j]?=some v:=by
 rw[<-hn,CV (by omega),XE];exact h
theorem TZ {l m:List (List AV)} {j n:Nat} {v:List AV} (hn:l.length=n):(l++m).set (n+j) v=l++m.set j v:=by
 rw[<-hn,LC _ _ (by omega),XE]
theorem AE2 {rr:Bool} {cs ds:List AV} {s0:AK} {bs:List (List AV)} {ts:List (Nat×Nat)} {Post:AV->AK->Prop} (h0:B9 s0) (hT:bs.take s0.bs.length=s0.bs) (Bu:AN bs s0.bs.length ts.length cs=some ds) (hP:Post (.agg ds) ⟨s0.bs,ts⟩):QM rr s0.bs.length Post (.agg cs) ⟨bs,ts⟩:=by
 refine fC (ds:=ds) ?_ Bu ?_
 ·rw[Bs]
  intro b hb;exact h0 b (by simpa[hT] using hb)
 ·show Post _ ⟨bs.take _,ts⟩
  rw[hT];exact hP
abbrev Z5:List AV:=.AA []::Z4
def FD (b:Br) (x:AV):Prop:=∃ a y,x=.agg (a::y)/\BO a (AQ b.bounds)/\Ba b.body (.agg y)
section
variable {R:RT}
theorem aY {e:Nat} {B:List Ty} (hB:∀ t∈B,size t<2 ^ 38/\cw t=true) {o:List Nat} (ho:∀ x∈o,x<B.length) (iK:o.length<2 ^ 38) {s0:AK} (hs0:B9 s0) {d:AV} {dr:List AV} (he:s0.bs[e]?=some (d::dr)) (hd:BO d (AQ B)) {xs y:List AV} {t:Ty} (hy:Ba t (.agg y)) {c f:AV} (hc:BO c (A4 (fD o)))
  {rr:Bool} {Post:AV->AK->Prop} (hP:∀ v ts',FD ⟨o.map fun x=>B.getD x nW,t⟩ v->Ew (.AA []) (.AA []) s0.ts ts'->Post v ⟨s0.bs,ts'⟩) :
  ∀ (j q:Nat) (tk:List (Nat×Nat)) (b:AV),q+j=o.length->Ex 0 tk 25 b (AQ ((o.take q).map fun x=>B.getD x nW))->Ew (.AA []) (.AA []) s0.ts tk->ES b s0.ts ->
   aZ R 0 0 0 (.ptr s0.bs.length 0) (.ptr (s0.bs.length+2) 0) (.ptr (s0.bs.length+5) 0) c (AD o.length) (AD q) ⟨s0.bs++[[.ptr e 0],xs,Z5,[c],[f],b::y],tk⟩ (QM rr s0.bs.length Post):=by
 have zF:y.length=4/\y.all Ar=true:=by
  obtain⟨k,n,i,ts⟩:=t;obtain⟨a,hy,ha⟩:=hy;cases hy;exact⟨rfl,by simp[ha.ok]⟩
 intro j
 induction j with
 | zero=>
  intro q tk b hi hb hC hF;refine AA3 (BE ?_);rw[A9 (by omega)];rw[CL (by omega)] at hb;have g5:(s0.bs++[[.ptr e 0],xs,Z5,[c],[f],b::y])[s0.bs.length+5]?=some (b::y):=Gj rfl rfl;have g2:(s0.bs++[[.ptr e 0],xs,Z5,[c],[f],b::y])[s0.bs.length+2]?=some Z5:=Gj rfl rfl;refine BQ (AI0 (Az g5 (by simp[zF.1]) (Ck g2 (by simp[zF.1]) rfl (by decide) (AM _) (by simp only[Ft,hb.BG.ok,zF.2,GR]) (.inl (AM _)) (Az (DH g2) (by simp[zF.1]) ?_))));obtain⟨b',c1,c2⟩:=hb.BG.close ((s0.bs++[[.ptr e 0],xs,Z5,[c],[f],b::y]).set (s0.bs.length+2) (b::y)) s0.bs.length tk.length;obtain⟨ds,c3,c4⟩:=hy.M7 ((s0.bs++[[.ptr e 0],xs,Z5,[c],[f],b::y]).set (s0.bs.length+2) (b::y)) s0.bs.length tk.length;refine AE2 (ds:=b'::ds) hs0 ?_ (by simp only[AN,c1,c3]) (hP _ tk ⟨b',ds,rfl,c2,c4⟩ hC);rw[TZ rfl];simp
 | succ j Gs=>
  intro q tk b hi hb hC hF;refine AA3 (BE ?_);rw[Au (by omega)];obtain⟨u,hu⟩:∃ u,o[q]?=some u:=⟨_,Ak (by omega)⟩;have huB:=ho u (BK hu);have hBu:B[u]?=some (B.getD u nW):=by rw[J4,Ak huB]; rfl
  have hm:=hB _ (BK hBu);have g0:(s0.bs++[[.ptr e 0],xs,Z5,[c],[f],b::y])[s0.bs.length]?=some [.ptr e 0]:=Gj (j:=0) rfl rfl;have g5:(s0.bs++[[.ptr e 0],xs,Z5,[c],[f],b::y])[s0.bs.length+5]?=some (b::y):=Gj rfl rfl
  have ge:(s0.bs++[[.ptr e 0],xs,Z5,[c],[f],b::y])[e]?=some (d::dr):=by
   rw[BA (Ae.1 he).1];exact he
  refine BZ (AI1 (B7 hc (row:=[.sc (.int .i64 u)]) (by omega) (by simp[A4,hu]) rfl (by omega) (Lh (Aq (A7 g5) (Ax g5 rfl (Ax g0 rfl (GG (A7 ge) (Aq (A7 ge) (Ax ge rfl (B7 hd (row:=Ah (B.getD u nW)) (by omega) (by simpa using CA hBu) (Am _) (by omega) (EU (AI (aP hm.1 hm.2 (Bp.Ci _)) ?_))))))))))));intro r hr;refine Iu hr.jO ⟨by decide,M6 hb rfl (by simp only[AZ,DU]; omega) fun b' Lg hb' hch=>?_⟩;have e1:((o.take q).map fun x=>B.getD x nW)++[B.getD u nW]=(o.take (q+1)).map fun x=>B.getD x nW:=by rw[Gr,hu]; simp
  rw[e1] at hb';refine Aq (A7 g5) (Fl g5 (by simp) hb'.BG.cells (AM _) hb'.BG.ok (.inl (AM _)) ?_);have e2:(s0.bs++[[.ptr e 0],xs,Z5,[c],[f],b::y]).set (s0.bs.length+5) (b'::y)=s0.bs++[[.ptr e 0],xs,Z5,[c],[f],b'::y]:=TZ rfl;refine⟨Aq (A7 g5) (HR _ _),Ax g5 rfl (Kw hb),AI2 (Cr (by omega) (by omega) ?_)⟩
  show aZ R _ _ _ _ _ _ _ _ _ ⟨(s0.bs++[[.ptr e 0],xs,Z5,[c],[f],b::y]).set (s0.bs.length+5) (b'::y),Lg⟩ _
  rw[e2];have:=Gs (q+1) Lg b' (by omega) hb' (hC.side hch hF) (hF.V7 hch hC.1);simpa using this
theorem bA (hn:TC R) {e:Nat} {B:List Ty} (jY:B.length<=2 ^ 40) (hB:∀ t∈B,size t<2 ^ 38/\cw t=true) {p:Ty} (hp:size p<2 ^ 38) (ht:H6 B.length p=true) {x:AV} (hx:Bp (ren p) x) {s:AK} (hs:B9 s) {d:AV} {dr:List AV} (he:s.bs[e]?=some (d::dr)) (hd:BO d (AQ B)) {L:A0} (hro:L.ro=0) (Fz:L.rt=0) :
  ∃ v s',(∃ ts',FD (KH B p) v/\Ew (.AA []) (.AA []) s.ts ts'/\s'=⟨s.bs,ts'⟩)/\BC (env R) L 45 [.ptr e 0,x] s v s':=by
 refine m45 (by simp[BN,Dl]) ?_;rw[hro,Fz];have hel:=(Ae.1 he).1;have hxx:=hx
 obtain⟨k,n,i,ts,hr⟩:∃ k n i ts,ren p=.mk k n i ts:=by
  obtain⟨k,n,i,ts⟩:=ren p;exact⟨k,n,i,ts,rfl⟩
 rw[hr] at hx;obtain⟨a,rfl,ha⟩:=hx;have iK:=R2 B.length p [];refine AI3 (DY (cs:=[.ptr e 0]) rfl rfl (DY (cs:=[AD k,SS n,AD i,a]) rfl (by simp[ha.ok]) (Cj (Cj (Cj ?_)))));simp only[DI,EZ,Di,Ab,A3,BV,CJ,Nat.reduceAdd];have g4:(s.bs++[[.ptr e 0],[AD k,SS n,AD i,a],Z5,[.AA []],[.pv (.sc .nilFunc)]])[s.bs.length+4]?=some [.pv (.sc .nilFunc)]:=Gj rfl rfl;refine Fl g4 (by decide) rfl (AM _) rfl (.inl (AM _)) ?_;have e4:∀ c,(s.bs++[[.ptr e 0],[AD k,SS n,AD i,a],Z5,[.AA []],[.pv (.sc .nilFunc)]]).set (s.bs.length+4) c=s.bs++[[.ptr e 0],[AD k,SS n,AD i,a],Z5,[.AA []],c]:=fun _=>TZ rfl
 simp only[e4,List.set_cons_zero];generalize Xq:s.bs++[[.ptr e 0],[AD k,SS n,AD i,a],Z5,[.AA []],[aS s.bs.length (s.bs.length+3) (s.bs.length+4)]]=bs;have Ow:bs.length=s.bs.length+5:=by rw[<-Xq]; simp
 have k0:bs[s.bs.length]?=some [.ptr e 0]:=by rw[<-Xq]; exact Gj (j:=0) rfl rfl
 have k1:bs[s.bs.length+1]?=some [AD k,SS n,AD i,a]:=by rw[<-Xq]; exact Gj rfl rfl
 have k3:bs[s.bs.length+3]?=some [.AA []]:=by rw[<-Xq]; exact Gj rfl rfl
 have k4:bs[s.bs.length+4]?=some [aS s.bs.length (s.bs.length+3) (s.bs.length+4)]:=by rw[<-Xq]; exact Gj rfl rfl
 have ke:bs[e]?=some (d::dr):=by rw[<-Xq,BA hel]; exact he
 have hok:B9 ⟨bs,s.ts⟩:=by
  intro b hb;rw[<-Xq] at hb;simp only[BL,Av,Fs,FL] at hb
  show AU bs.length b=true
  rw[Ow];rcases hb with hb|rfl|rfl|rfl|rfl|rfl
  ·exact CZ (by omega) b (hs b hb)
  ·simp[AU,Aa]; omega
  ·simp[AU,Aa,ha.Aa]
  ·rfl
  ·rfl
  ·simp[AU,Aa]
 refine Ax k4 rfl (Az k1 rfl ?_);obtain⟨v,s',⟨c',ts',ds,r1,r2,rfl,r4,rfl⟩,r6⟩:=aV hn (e:=e) (P:=s.bs.length) (A:=s.bs.length+3) (F:=s.bs.length+4) (N:=B.length) rfl jY p hp ht _ hxx [] ⟨bs,s.ts⟩ hok ⟨k0,k4,⟨d,dr,ke,hd⟩,by omega,by omega,by omega⟩ (by simp; omega) (Ca (env R) 45 0 0 0) (.AA []) rfl rfl k3 (.inl rfl);rw[jb p [] ht] at r4
 have hds:ds.length=4/\ds.all Ar=true:=by
  generalize (Lb B.length p []).1=t at r4;obtain⟨k,n,i,ts⟩:=t;obtain⟨a,hy,ha⟩:=r4;cases hy;exact⟨rfl,by simp[ha.ok]⟩
 have AOl:∀ f,(s.bs++[[.ptr e 0],[AD k,SS n,AD i,a],Z5,[c'],[f],Z5]).set (s.bs.length+5) (.AA []::ds)=s.bs++[[.ptr e 0],[AD k,SS n,AD i,a],Z5,[c'],[f],.AA []::ds]:=fun _=>TZ rfl
 refine⟨_,_,r6,Q7 (cs:=.AA []::ds) ?_ ?_⟩
 ·simp only[Ia,cellsOf,hds.1,hds.2,A3,BV,and_self,Nat.reduceAdd,AL,Dr]
  match ds,hds.1 with
  | [d1,d2,d3,d4],_=>rfl
 ·subst Xq
  have e3:∀ c,(s.bs++[[.ptr e 0],[AD k,SS n,AD i,a],Z5,[.AA []],[aS s.bs.length (s.bs.length+3) (s.bs.length+4)]]).set (s.bs.length+3) c=s.bs++[[.ptr e 0],[AD k,SS n,AD i,a],Z5,c,[aS s.bs.length (s.bs.length+3) (s.bs.length+4)]]:=fun _=>TZ rfl
  simp only[e3];refine Cj ?_;simp only[DI,EZ,Di,Ab,A3,BV,CJ,Nat.reduceAdd];have g5:(s.bs++[[.ptr e 0],[AD k,SS n,AD i,a],Z5,[c'],[aS s.bs.length (s.bs.length+3) (s.bs.length+4)],Z5])[s.bs.length+5]?=some Z5:=Gj rfl rfl;refine Ck g5 (by simp[hds.1]) rfl (by decide) (AM _) (by simp only[Ft,hds.2,Ar,GR]) (.inl (AM _)) ?_;simp only[AOl];have g3:(s.bs++[[.ptr e 0],[AD k,SS n,AD i,a],Z5,[c'],[aS s.bs.length (s.bs.length+3) (s.bs.length+4)],.AA []::ds])[s.bs.length+3]?=some [c']:=Gj rfl rfl;refine Ax g3 rfl (BS (n:=(Lb B.length p []).2.length) (by rw[r1.BG.Bk,Dy,AZ]) ?_);simp only[BV] at iK;exact aY hB (fE p [] ht (by simp)) (by omega) hs he hd r4 r1.BG (fun v ts' h1 h2=>⟨ts',h1,h2,rfl⟩) (Lb B.length p []).2.length 0 ts' (.AA []) (by omega) (.inl rfl) ⟨r2.1,r2.2.1,.inl rfl⟩ (ES.AA _ _)
end
mutual
def cx (m:Int->Bool) (b:Ty):Ty->Int->Ty
 | .mk c n i ts,k=>bif c==7 then(bif m i&&k==0 then b else .mk c n i ts) else bif c==3 then .mk c n i (QO m b ts k) else .mk c n i ts
def QO (m:Int->Bool) (b:Ty):List Ty->Int->List Ty
 | [],_=>[]
 | t::l,k=>cx m b t k::QO m b l (k-BF m t)
end
mutual
theorem jc (m:Int->Bool) (b:Ty):∀ (t:Ty) (k:Int),k<0\/(BF m t:Int)<=k->cx m b t k=t
 | .mk c n i ts,k,h=>by
  rw[BF] at h;rw[cx];cases h7:c==7 with
  | true=>
   rw[h7] at h;simp only[AE] at h ⊢;cases hm:m i with
   | true=>
    rw[hm] at h;simp only[AE] at h
    have:(k==0)=false:=by
     simp only[D1,ne_eq];omega
    rw[this];rfl
   | false=>rfl
  | false=>
   cases h3:c==3 with
   | true=>
    rw[h7,h3] at h;simp only[AE,AB] at h ⊢;rw[Ta m b ts k h]
   | false=>rfl
theorem Ta (m:Int->Bool) (b:Ty):∀ (l:List Ty) (k:Int),k<0\/(CP m l:Int)<=k->QO m b l k=l
 | [],_,_=>rfl
 | t::l,k,h=>by
  rw[CP] at h;rw[QO,jc m b t k (by omega),Ta m b l (k-BF m t) (by omega)]
end
mutual
theorem qy (m:Int->Bool) (b:Ty):∀ (t:Ty) (k:Nat),k<BF m t->cx m b t k=KU m b t k
 | .mk c n i ts,k,h=>by
  rw[BF] at h;rw[cx,KU];cases h7:c==7 with
  | true=>
   have:((k:Int)==0)=(k==0):=by
    rw[C0];simp
   rw[this];rfl
  | false=>
   cases hc:c==3 with
   | true=>
    rw[h7,hc] at h;simp only[AE,AB] at h ⊢;rw[jd m b ts k h]
   | false=>rfl
theorem jd (m:Int->Bool) (b:Ty):∀ (l:List Ty) (k:Nat),k<CP m l->QO m b l k=Jv m b l k
 | [],_,h=>by simp[CP] at h
 | t::l,k,h=>by
  rw[CP] at h;rw[QO,Jv]
  by_cases hk:k<BF m t
  ·rw[Au hk,AE,qy m b t k hk,Ta m b l _ (by omega)]
  ·have:(k:Int)-(BF m t:Nat)=((k-BF m t:Nat):Int):=by omega
   rw[A9 hk,AB,jc m b t k (by omega),this,jd m b l (k-BF m t) (by omega)]
end
section
variable {R:RT}
abbrev rC (V:Nat):AV:=.func (.func 137) [] [.ptr V 0]
theorem rD {V:Nat} {v:Nat} {i:Int} {s:AK} (hs:B9 s) (hV:s.bs[V]?=some [AD v]) (L:A0):BC (env R) L 137 [AD i,.ptr V 0] s (BB (i==(v:Int))) s:=by
 obtain⟨w,s',⟨rfl,rfl⟩,hc⟩:=AOm (R:=R) (L:=L) (s:=s) (t0:=AD i) (t1:=.ptr V 0) (Post:=fun w s'=>w=BB (i==(v:Int))/\s'=s) (by simp[BN,Dl]) (AE3 (Ax hV rfl (CC (by
  have:=JH (rr:=L.rr 137) hs (m:=[]) (p:=.sc (.bool (i==(v:Int)))) (Post:=fun w s'=>w=BB (i==(v:Int))/\s'=s) ⟨rfl,rfl⟩;simpa using this))))
 exact hc
def AE4 (R:RT) (C V v:Nat) (b:Ty) (y:AV) (x:AV) (t:Ty) (k:Int) (s:AK):Prop:=∀ (L:A0),L.ro=0->L.rt=0->s.bs[C]?=some [AD k]->s.bs[V]?=some [AD v] ->
 ∃ w s',(∃ ts' ds,w=.agg ds/\Ba (ren (cx (·==(v:Int)) b t k)) (.agg ds)/\Ew (.AA []) (.AA []) s.ts ts'/\s'=⟨s.bs.set C [AD (k-BF (·==(v:Int)) t)],ts'⟩)/\BC (env R) L 59 [x,.ptr C 0,rC V,y] s w s'
theorem zH {C V v:Nat} (hCV:C≠V) {b:Ty} {yc:List AV} {ts:List Ty} {a:AV} (ha:BO a (AQ (Bx ts))) (hl:Ac ts<2 ^ 38) {k i k0:Int} {n:List UInt8} (hk7:k≠7) (SA:-(2 ^ 40)-2 ^ 38<=k0-Ac ts) (hk2:k0<2 ^ 40) {s0:AK} (hs0:B9 s0) (hC:C<s0.bs.length) (hV:s0.bs[V]?=some [AD v]) (hyl:yc.length=4)
  (ih:∀ t∈ts,∀ (k:Int) (s:AK),B9 s->-(2 ^ 40)-2 ^ 38<=k-size t->k<2 ^ 40->AE4 R C V v b (.agg yc) (.agg ((Ah (ren t)).map .pv)) t k s)
  {rr:Bool} {Post:AV->AK->Prop}
  (hP:∀ ts' ds,Ew (.AA []) (.AA []) s0.ts ts'->Ba (.mk k n i (Bx (QO (·==(v:Int)) b ts k0))) (.agg ds)->Post (.agg ds) ⟨s0.bs.set C [AD (k0-CP (·==(v:Int)) ts)],ts'⟩) :
  ∀ (j q:Nat) (kc:Int) (done:List Ty) (bs:List (List AV)) (tk:List (Nat×Nat)) (acc:AV),q+j=ts.length->done++QO (·==(v:Int)) b (ts.drop q) kc=QO (·==(v:Int)) b ts k0->done.length=q->kc-CP (·==(v:Int)) (ts.drop q)=k0-CP (·==(v:Int)) ts->k0-Ac ts<=kc-Ac (ts.drop q)->kc<2 ^ 40 ->
   B9 ⟨bs,tk⟩->bs.take s0.bs.length=s0.bs.set C [AD kc]->bs[s0.bs.length+1]?=some yc->bs[s0.bs.length+2]?=some Z4->bs[s0.bs.length+3]?=some [AD k,SS n,AD i,acc] ->
   Ex 0 tk 25 acc (AQ (Bx done))->Ew (.AA []) (.AA []) s0.ts tk->ES acc s0.ts ->
   je R 0 0 0 (.ptr C 0) (rC V) (.ptr (s0.bs.length+1) 0) (.ptr (s0.bs.length+2) 0) (.ptr (s0.bs.length+3) 0) a (AD ts.length) (AD q) ⟨bs,tk⟩ (QM rr s0.bs.length Post):=by
 have l5:=Cq ts;intro j
 induction j with
 | zero=>
  intro q kc done bs tk acc hi hd hdl hk hks LS hs hT h1 h2 h3 hb hch hfr;refine AA4 (BE ?_);rw[A9 (by omega)];rw[Cf (by omega),QO,IC] at hd;rw[Cf (by omega),CP] at hk;rw[hd] at hb;refine BQ (AI4 (Az h3 rfl (Ck h2 rfl rfl (by decide) (AM _) (by simp[hb.BG.ok]) (.inl (AM _)) (Az (DH h2) rfl ?_))));obtain⟨ds,c1,c2⟩:=Ba.M7 (v:=.mk k n i (Bx (QO (·==(v:Int)) b ts k0))) (cs:=[AD k,SS n,AD i,acc]) ⟨acc,rfl,hb.BG⟩ (bs.set (s0.bs.length+2) [AD k,SS n,AD i,acc]) s0.bs.length tk.length;have hkc:kc=k0-CP (·==(v:Int)) ts:=by omega
  rw[hkc] at hT;exact jW hs0 ((Ff (by omega)).trans hT) rfl c1 (hP tk ds hch c2)
 | succ j Gs=>
  intro q kc done bs tk acc hi hd hdl hk hks LS hs hT h1 h2 h3 hb hch hfr;refine AA4 (BE ?_);rw[Au (by omega)];obtain⟨t,ht⟩:∃ t,ts[q]?=some t:=⟨_,Ak (by omega)⟩;have Fz:(Bx ts)[q]?=some (ren t):=by rw[Bf]; simp[ht]
  have dy:=BK ht;have hrl:((Ah (ren t)).map AV.pv).length=4:=by rw[AZ,Am]
  have hro:=DZ (ren t)
  have L3:AU (bs.length+1) ((Ah (ren t)).map AV.pv)=true:=by
   obtain⟨k1,n1,i1,t1⟩:=ren t;simp[Ah,AU,Aa]
  refine BZ (AI5 (B7 ha (row:=Ah (ren t)) (by omega) (by simpa using CA Fz) (Am _) (by omega) (EU (Cj ?_))));have qj:=ih t dy;have hdr:ts.drop q=t::ts.drop (q+1):=drop_cons ht;rw[hdr,QO] at hd;rw[hdr,CP] at hk;rw[hdr,Ac] at hks;have hcs:=PD (·==(v:Int)) t;generalize (Ah (ren t)).map AV.pv=row at hrl hro L3 qj;refine Ck (Ay bs Z4) hrl rfl (by decide) (AM _) hro (.inl (AM _)) ?_;have e:(bs++[Z4]).set bs.length row=bs++[row]:=by simp
  rw[e];have l3:=(Ae.1 h3).1;have OH:s0.bs.length<=bs.length:=by omega
  have jT:=(Gu OH row).trans hT;have hs':B9 ⟨bs++[row],tk⟩:=B9.app (s:=⟨bs,tk⟩) hs L3;have gC:(s0.bs.set C [AD kc])[C]?=some [AD kc]:=by rw[EA hC]
  have gV:(s0.bs.set C [AD kc])[V]?=some [AD v]:=by rw[Cd hCV]; exact hV
  have lV:=(Ae.1 hV).1;obtain⟨w,s',⟨ts',ds,rfl,r4,r2,rfl⟩,r6⟩:=qj kc ⟨bs++[row],tk⟩ hs' (by omega) LS (Ca (env R) 59 0 0 0) rfl rfl (Dh jT gC) (Dh jT gV);have g1:=A6 h1 row;have g2:=A6 h2 row;have g3:=A6 h3 row;have g3':((bs++[row]).set C [AD (kc-BF (·==(v:Int)) t)])[s0.bs.length+3]?=some [AD k,SS n,AD i,acc]:=Cs g3 (by omega);refine Aq (A7 g3) (Ax g3 rfl (Az (Ay bs row) hrl (Az g1 hyl ⟨_,_,r6,Iu r4 ⟨by decide,M6 (r2.keep hb (fun _ h=>by cases h)) rfl ?_ ?_⟩⟩)))
  ·rw[Bf,AZ]
   omega
  ·intro b' Lg hb' Hl
   have er:Bx done++[ren (cx (·==(v:Int)) b t kc)]=Bx (done++[cx (·==(v:Int)) b t kc]):=by simp[Bf]
   rw[er] at hb';refine Aq (A7 g3') (Fl g3' (by simp) hb'.BG.cells (AM _) hb'.BG.ok (.inl (AM _)) ?_);refine⟨Aq (A7 g3') (HR _ _),Ax g3' rfl (Kw hb),AI7 (Cr (by omega) (by omega) ?_)⟩
   have hTs:(((bs++[row]).set C [AD (kc-BF (·==(v:Int)) t)]).set (s0.bs.length+3) [AD k,SS n,AD i,b']).take s0.bs.length=s0.bs.set C [AD (kc-BF (·==(v:Int)) t)]:=by
    rw[Ff (by omega),Gz (c:=[AD (kc-BF (·==(v:Int)) t)]) jT,E3]
   have hs2:B9 ⟨(bs++[row]).set C [AD (kc-BF (·==(v:Int)) t)],ts'⟩:=B9.set (s:=⟨bs++[row],tk⟩) hs' rfl _
   have fin:=Gs (q+1) (kc-BF (·==(v:Int)) t) (done++[cx (·==(v:Int)) b t kc]) _ Lg b' (by omega) (by simpa using hd) (by simp[hdl]) (by omega) (by omega) (by omega)
    (B9.set (s:=⟨(bs++[row]).set C [AD (kc-BF (·==(v:Int)) t)],ts'⟩) hs2 (by simp[AU,Aa,hb'.BG.Aa]) _) hTs (Cs (Cs g1 (by omega)) (by omega)) (Cs (Cs g2 (by omega)) (by omega)) (DH g3')
    hb' ((hch.trans r2).side Hl hfr) (hfr.V7 Hl (Bh hch.1 r2.1))
   simpa using fin
end
theorem Bp.agg {t:Ty} {x:AV} (h:Bp t x):∃ cs,x=.agg cs:=by
 obtain⟨k,n,i,ts⟩:=t;obtain⟨a,rfl,_⟩:=h;exact⟨_,rfl⟩
theorem AW.open {E:Env} {f:FuncId} {args args':List AV} {Post:AV->Prop} (hk:E.kind f=.rd) (hc:E.clone f=false) (hl:args.length=args'.length) (h1:AN [] 0 0 args=some args') (h2:AN [] 0 0 args'=some args') (h:AW E f args' Post):AW E f args Post:=by
 obtain⟨v,hp,hv⟩:=h;refine⟨v,hp,fun L s=>?_⟩;obtain⟨n,hn⟩:=hv L s;refine⟨n,fun m hm=>?_⟩;rw[<-hn m hm];cases m with
 | zero=>rfl
 | succ m=>
  simp only[Cw];cases E.P.funcs[f]? with
  | none=>rfl
  | some fn=>simp only[hc,AB,D3,hk,hl,h1,h2]
theorem Bp.R3 {t:Ty} {x:AV} (h:Bp t x) (bs:List (List AV)) (n m:Nat):close bs n m x=some x:=by
 obtain⟨k,c,i,ts⟩:=t;obtain⟨a,rfl,ha⟩:=h;simp[ha.close]
section
variable {R:RT}
theorem Tb (hn:TC R) {N:Nat} (hN:N<=2 ^ 40) {k i:Int} {n:List UInt8} {ts:List Ty} (ht:H6 N (.mk k n i ts)=true) {x:AV} (hx:Ba (ren (.mk k n i ts)) x) :
  AW (env R) 92 [x] fun r=>r=bif k==7 then .tuple [AD i,BB true] else .tuple [AD 0,BB false]:=by
 obtain⟨x',h1,h2⟩:=hx.closed [] 0;exact AW.open (args':=[x']) (by kernel_rfl) (by kernel_rfl) rfl (by simp[AN,h1]) (by simp[AN,h2.R3]) (KV hn hN ht h2)
theorem PO (hn:TC R) {N:Nat} (hN:N<=2 ^ 40) (v:Nat) (t:Ty) (inv:Bool) (hs:size t<2 ^ 60) (ht:H6 N t=true) {x:AV} (hx:Ba (ren t) x):AW (env R) 62 [x,AD v,BB inv] fun r=>r=BB (C6 v inv t):=by
 obtain⟨x',h1,h2⟩:=hx.closed [] 0;exact AW.open (args':=[x',AD v,BB inv]) (by kernel_rfl) (by kernel_rfl) rfl (by simp[AN,h1,Tel.close]) (by simp[AN,h2.R3,Tel.close]) (Q8 hn hN v t inv hs ht x' h2)
theorem fF {rr:Bool} {C:Nat} {c:List AV} {t:Ty} {cs:List AV} {s0:AK} {bs:List (List AV)} {ts:List (Nat×Nat)} {Post:AV->AK->Prop} (h0:B9 s0) (hT:bs.take s0.bs.length=s0.bs.set C c) (hc:AU s0.bs.length c=true) (ht:Ba t (.agg cs)) (hP:∀ ds,Ba t (.agg ds)->Post (.agg ds) ⟨s0.bs.set C c,ts⟩):QM rr s0.bs.length Post (.agg cs) ⟨bs,ts⟩:=by
 obtain⟨ds,c1,c2⟩:=ht.M7 bs s0.bs.length ts.length;exact jW h0 hT hc c1 (hP ds c2)
mutual
theorem jf (hn:TC R) {N:Nat} (jY:N<=2 ^ 40) {C V v:Nat} (hCV:C≠V) {b:Ty} {y:AV} (hy:Bp (ren b) y):∀ (t:Ty),size t<2 ^ 38->H6 N t=true->∀ (x:AV),Ba (ren t) x->∀ (k:Int) (s:AK),B9 s->-(2 ^ 40)-2 ^ 38<=k-size t->k<2 ^ 40->AE4 R C V v b y x t k s
 | .mk k n i ts,h,ht,x,hx,kc,s,hs,SA,hk2,L,hro,Fz,hC,hV=>by
  have lC:=(Ae.1 hC).1;have l5:=Cq ts;have aW:=Tb hn jY ht hx;rw[H6] at ht;simp only[size] at h SA;obtain⟨yc,rfl⟩:=hy.agg;have hy':=hy;obtain⟨zF,hyo,hyi,_⟩:=hy'.cells;refine m59 (by simp[BN,Dl]) ?_;rw[hro,Fz];have same:s.bs.set C [AD kc]=s.bs:=by rw[<-(Ae.1 hC).2]; exact HJ _
  have start:∀ (k' i':Int) (nm:List UInt8) (a:AV) (rows:List (List PV)) (Post:AV->AK->Prop),BO a rows->AW (env R) 92 [.agg [AD k',SS nm,AD i',a]] (fun r=>r=bif k==7 then .tuple [AD i,BB true] else .tuple [AD 0,BB false]) ->
    (∀ bs,bs.take s.bs.length=s.bs.set C [AD kc]->B9 ⟨bs,s.ts⟩->bs.length=s.bs.length+3->bs[s.bs.length]?=some [AD k',SS nm,AD i',a]->bs[s.bs.length+1]?=some yc->bs[s.bs.length+2]?=some Z4 ->
     AX (BB (k==7)) (
      Fe (env R) (Ca (env R) 59 0 0 0) (rC V) [AD (bif k==7 then i else 0)] ⟨bs,s.ts⟩ fun a22 YO=>
      AX a22 (
      Eo YO (.ptr C 0) fun a24=>
      FA (env R) YO none a24 fun a25=>
      Dx .i64 .sub a25 (AD 1) fun a26=>
      Eo YO (.ptr C 0) fun a27=>
      C2 (Ca (env R) 59 0 0 0) YO 1 a27 a26 fun TX=>
      Eo TX (.ptr C 0) fun a29=>
      FA (env R) TX none a29 fun a30=>
      Dx .i64 .eql a30 (AD (-1)) fun a31=>
      AX a31 (
      FA (env R) TX (some 4) (.ptr (s.bs.length+1) 0) fun a32=>
      C2 (Ca (env R) 59 0 0 0) TX 4 (.ptr (s.bs.length+2) 0) a32 fun zB=>
      FA (env R) zB (some 4) (.ptr (s.bs.length+2) 0) fun r=>
      QM (L.rr 59) s.bs.length Post r zB) (
      V9 R 0 0 0 (.ptr s.bs.length 0) (.ptr (s.bs.length+2) 0) TX (QM (L.rr 59) s.bs.length Post))) (
      V9 R 0 0 0 (.ptr s.bs.length 0) (.ptr (s.bs.length+2) 0) YO (QM (L.rr 59) s.bs.length Post))) (
      rE R 0 0 0 (.ptr C 0) (rC V) (.ptr s.bs.length 0) (.ptr (s.bs.length+1) 0) (.ptr (s.bs.length+2) 0) ⟨bs,s.ts⟩ (QM (L.rr 59) s.bs.length Post))) ->
    rF R 0 0 0 (.agg [AD k',SS nm,AD i',a]) (.ptr C 0) (rC V) (.agg yc) s (QM (L.rr 59) s.bs.length Post):=by
   intro k' i' nm a rows Post ha hv hh;refine AI8 (DY (cs:=[AD k',SS nm,AD i',a]) rfl (by simp[ha.ok]) (DY (cs:=yc) rfl hyo (Cj ?_)));simp only[DI,EZ,Di,Ab,A3,BV,CJ,Nat.reduceAdd];have g0:(s.bs++[[AD k',SS nm,AD i',a],yc,Z4])[s.bs.length]?=some [AD k',SS nm,AD i',a]:=Gj (j:=0) rfl rfl;refine Az g0 rfl (AI hv ?_);rintro _ rfl
   have:=hh (s.bs++[[AD k',SS nm,AD i',a],yc,Z4]) (by rw[same]; simp) (by
    intro d hd;simp only[BL,Av,Fs,FL] at hd
    show AU (s.bs++_).length d=true
    rcases hd with hd|rfl|rfl|rfl
    ·exact CZ (by simp) d (hs d hd)
    ·simp[AU,Aa,ha.Aa]
    ·exact CZ (AM _) _ hyi
    ·simp[AU,Aa]) (by simp) g0 (Gj rfl rfl) (Gj rfl rfl)
   cases hb7:k==7 with
   | true=>rw[hb7] at this; exact Bq rfl (Bq rfl this)
   | false=>rw[hb7] at this; exact Bq rfl (Bq rfl this)
  have back:∀ (k' i':Int) (nm:List UInt8) (a:AV) (u:List Ty) (kd:Int) (bs:List (List AV)) (Post:AV->AK->Prop),BO a (AQ u)->bs.take s.bs.length=s.bs.set C [AD kd]->bs[s.bs.length]?=some [AD k',SS nm,AD i',a]->bs[s.bs.length+2]?=some Z4 ->
    (∀ ds,Ba (.mk k' nm i' u) (.agg ds)->Post (.agg ds) ⟨s.bs.set C [AD kd],s.ts⟩)->V9 R 0 0 0 (.ptr s.bs.length 0) (.ptr (s.bs.length+2) 0) ⟨bs,s.ts⟩ (QM (L.rr 59) s.bs.length Post):=by
   intro k' i' nm a u kd bs Post ha hT g0 g2 hP;refine AI9 (Az g0 rfl (Ck g2 rfl rfl (by decide) (AM _) (by simp[ha.ok]) (.inl (AM _)) (Az (DH g2) rfl ?_)));exact fF hs ((Ff (by omega)).trans hT) rfl (t:=.mk k' nm i' u) ⟨a,rfl,ha⟩ hP
  by_cases h7:k=7
  ·subst h7
   simp only[BH,AE,AG,IM,BT] at ht;obtain⟨hts,hi0,hiN⟩:=ht;subst hts;have er:ren (.mk 7 n i [])=.mk 2 (36::GH i.toNat) 0 []:=rfl;rw[er] at hx;obtain⟨a,rfl,ha⟩:=hx;have erz:cx (·==(v:Int)) b (.mk 7 n i []) kc=bif (i==(v:Int))&&kc==0 then b else .mk 7 n i []:=by rw[cx]; rfl
   have ecn:BF (·==(v:Int)) (.mk 7 n i [])=bif i==(v:Int) then 1 else 0:=by rw[BF]; rfl
   rw[erz,ecn];refine start 2 0 (36::GH i.toNat) a _ _ ha aW fun bs hT hok hl g0 g1 g2=>?_
   have gV:bs[V]?=some [AD v]:=Dh hT (by rw[same]; exact hV);have gC:bs[C]?=some [AD kc]:=Dh hT (by rw[same]; exact hC);refine BZ ⟨_,_,rD (i:=i) hok gV _,?_⟩;cases hiv:i==(v:Int) with
   | false=>
    simp only[E2,AB];refine BQ (back 2 0 _ a [] kc bs _ ha hT g0 g2 fun ds hds=>⟨s.ts,ds,rfl,by rw[er]; exact hds,Ew.refl _ _,by simp⟩)
   | true=>
    simp only[Ec,AE];refine BZ (GG (A7 gC) (Ax gC rfl (Le (by omega) (by omega) (GG (A7 gC) (Fl gC (by simp) rfl (AM _) rfl (.inl (AM _)) ?_)))));have gC':(bs.set C [AD (kc-1)])[C]?=some [AD (kc-1)]:=by rw[EA (by omega)]
    have jT:(bs.set C [AD (kc-1)]).take s.bs.length=s.bs.set C [AD (kc-1)]:=by rw[Gz (c:=[AD (kc-1)]) hT,E3]
    refine GG (A7 gC') (Ax gC' rfl (CC ?_))
    have e0:(kc-1==-1)=(kc==0):=by
     rw[C0];simp only[Dv];omega
    rw[e0];cases cj:kc==0 with
    | true=>
     simp only[AE];refine BZ (Az (Cs g1 (by omega)) zF (Ck (Cs g2 (by omega)) zF rfl (by decide) (AM _) hyo (.inl (AM _)) (Az (DH (Cs g2 (by omega))) zF ?_)));refine fF hs ((Ff (by omega)).trans jT) rfl hy'.jO fun ds hds=>⟨s.ts,ds,rfl,hds,Ew.refl _ _,rfl⟩
    | false=>
     simp only[AB];refine BQ (back 2 0 _ a [] (kc-1) _ _ ha jT (Cs g0 (by omega)) (Cs g2 (by omega)) fun ds hds=>⟨s.ts,ds,rfl,by rw[er]; exact hds,Ew.refl _ _,rfl⟩)
  ·have b7:(k==7)=false:=by simpa using h7
   have er:=Gt k n i ts h7;rw[er] at hx;rw[b7] at ht;simp only[AB,AG] at ht;obtain⟨a,rfl,ha⟩:=hx;refine start k i n a _ _ ha aW fun bs hT hok hl g0 g1 g2=>?_
   rw[b7];refine BQ (AJC (Aq (A7 g0) (Ax g0 rfl (Fk ?_))));cases h3:k==3 with
   | false=>
    have hne:(k != 3)=true:=by simp[bne,h3]
    rw[hne];have erz:cx (·==(v:Int)) b (.mk k n i ts) kc=.mk k n i ts:=by rw[cx,b7,h3]; rfl
    have ecn:BF (·==(v:Int)) (.mk k n i ts)=0:=by rw[BF,b7,h3]; rfl
    rw[erz,ecn];have:=back k i n a (Bx ts) kc bs (fun w s'=>∃ ts' ds,w=.agg ds/\Ba (ren (.mk k n i ts)) (.agg ds)/\Ew (.AA []) (.AA []) s.ts ts'/\s'=⟨s.bs.set C [AD (kc-(0:Nat))],ts'⟩) ha hT g0 g2 fun ds hds=>⟨s.ts,ds,rfl,by rw[er]; exact hds,Ew.refl _ _,by simp⟩
    exact BZ (Az g0 rfl (Ck g2 rfl rfl (by decide) (AM _) (by simp[ha.ok]) (.inl (AM _)) (Az (DH g2) rfl (fF hs ((Ff (by omega)).trans hT) rfl (t:=.mk k n i (Bx ts)) ⟨a,rfl,ha⟩ fun ds hds=>⟨s.ts,ds,rfl,by rw[er]; exact hds,Ew.refl _ _,by simp⟩))))
   | true=>
    have hne:(k != 3)=false:=by simp[bne,h3]
    rw[hne];have erz:cx (·==(v:Int)) b (.mk k n i ts) kc=.mk k n i (QO (·==(v:Int)) b ts kc):=by rw[cx,b7,h3]; rfl
    have ecn:BF (·==(v:Int)) (.mk k n i ts)=CP (·==(v:Int)) ts:=by rw[BF,b7,h3]; rfl
    rw[erz,ecn,Gt k n i _ h7];refine BQ (AJD (Az g0 rfl (Cj ?_)));simp only[hl];have gl:(bs++[Z4])[s.bs.length+3]?=some Z4:=by rw[<-hl]; exact Ay bs Z4
    refine Ck gl rfl rfl (by decide) (AM _) (by simp[ha.ok]) (.inl (AM _)) ?_;have gl2:((bs++[Z4]).set (s.bs.length+3) [AD k,SS n,AD i,a])[s.bs.length+3]?=some [AD k,SS n,AD i,a]:=DH gl;refine Aq (A7 gl2) (Fl (off:=3) gl2 (AL 4) rfl (AM _) rfl (.inl (AM _)) ?_)
    have eb:((bs++[Z4]).set (s.bs.length+3) [AD k,SS n,AD i,a]).set (s.bs.length+3) ([AD k,SS n,AD i,a].set 3 (.AA []))=bs++[[AD k,SS n,AD i,.AA []]]:=by
     rw[E3,<-hl];simp
    show Bo ⟨((bs++[Z4]).set (s.bs.length+3) [AD k,SS n,AD i,a]).set (s.bs.length+3) ([AD k,SS n,AD i,a].set 3 (.AA [])),s.ts⟩ _ _ _
    rw[eb];have q0:=A6 g0 [AD k,SS n,AD i,.AA []];refine Aq (A7 q0) (Ax q0 rfl (BS (n:=ts.length) (by rw[ha.Bk,Ad,Bf,AZ]) ?_))
    exact zH (C:=C) (V:=V) hCV (yc:=yc) ha (by omega) h7 (k0:=kc) (by omega) hk2 hs lC hV zF (fun t hm k s hs h1 h2=>bB hn jY hCV hy' ts (by omega) ht.2.2 t hm k s hs h1 h2) (fun ts' ds h1 h2=>⟨ts',ds,rfl,h2,h1,rfl⟩) ts.length 0 kc [] _ s.ts (.AA []) (by omega) (by simp) rfl (by simp) (by simp) hk2
     (B9.app (s:=⟨bs,s.ts⟩) hok (by simp[AU,Aa])) ((Gu (by omega) _).trans hT) (A6 g1 _) (A6 g2 _) (by rw[<-hl]; exact Ay _ _) (.inl rfl) (Ew.refl _ _) (ES.AA _ _)
theorem bB (hn:TC R) {N:Nat} (jY:N<=2 ^ 40) {C V v:Nat} (hCV:C≠V) {b:Ty} {y:AV} (hy:Bp (ren b) y):∀ (ts:List Ty),Ac ts<2 ^ 38->I0 N ts=true->∀ t∈ts,∀ (k:Int) (s:AK),B9 s->-(2 ^ 40)-2 ^ 38<=k-size t->k<2 ^ 40->AE4 R C V v b y (.agg ((Ah (ren t)).map .pv)) t k s
 | [],_,_,_,h=>by cases h
 | u::l,h,ht,t,hm=>by
  simp only[Ac] at h;simp only[I0,AG] at ht;rcases Av.1 hm with h' | h'
  ·rw[h']
   exact jf hn jY hCV hy u (by omega) ht.1 _ (Bp.Ci _).jO
  ·exact bB hn jY hCV hy l (by omega) ht.2 t h'
end
end
def xo (v:AV) (r:Option (List Ty)):Prop:=match r with
 | none=>v=.tuple [.AA [],BB false]
 | some l=>∃ a,v=.tuple [a,BB true]/\BO a (AQ (Bx l))
abbrev AR (Ao:Nat):Nat->Bool:=fun n=>decide (Ao<n)
theorem FE {rr:Bool} {e Ao:Nat} {v d':AV} {r:Option (List Ty)} {s0:AK} {bs:List (List AV)} {ts:List (Nat×Nat)} {Post:AV->AK->Prop} (h0:B9 s0) (hT:bs.take s0.bs.length=s0.bs.set e [d',AD Ao]) (hd:Aa s0.bs.length d'=true) (hr:xo v r) (hP:∀ w,xo w r->Post w ⟨s0.bs.set e [d',AD Ao],ts⟩):QM rr s0.bs.length Post v ⟨bs,ts⟩:=by
 have hok:((bs.take s0.bs.length).all (AU s0.bs.length))=true:=by
  have:=B9.set h0 (c:=[d',AD Ao]) (by simp[AU,Aa,hd]) ts (j:=e);rw[Bs];intro b hb;have:=this b (by simpa[hT] using hb);simpa using this
 cases r with
 | none=>
  cases hr;refine Jj (ds:=[.AA [],BB false]) hok rfl ?_
  show Post _ ⟨bs.take _,ts⟩
  rw[hT];exact hP _ rfl
 | some l=>
  obtain⟨a,rfl,ha⟩:=hr;obtain⟨a',h1,h2⟩:=ha.close bs s0.bs.length ts.length;refine Jj (ds:=[a',BB true]) hok (by simp[AN,h1,Tel.close]) ?_
  show Post _ ⟨bs.take _,ts⟩
  rw[hT];exact hP _ ⟨a',rfl,h2⟩
theorem Ba.cells {t:Ty} {y:List AV} (h:Ba t (.agg y)):y.length=4/\y.all Ar=true/\∀ n,AU n y=true:=by
 obtain⟨k,n,i,ts⟩:=t;obtain⟨a,hy,ha⟩:=h;cases hy;exact⟨rfl,by simp[ha.ok],fun n=>by simp[AU,Aa,ha.Aa]⟩
theorem Ba.agg {t:Ty} {x:AV} (h:Ba t x):∃ cs,x=.agg cs:=by
 obtain⟨k,n,i,ts⟩:=t;obtain⟨a,rfl,_⟩:=h;exact⟨_,rfl⟩
mutual
theorem M8 (N:Nat):∀ t:Ty,H6 N t=Ev (fun i=>decide (0<=i)&&decide (i<N)) t
 | .mk k n i ts=>by rw[H6,Ev,bC N ts]
theorem bC (N:Nat):∀ l:List Ty,I0 N l=D8 (fun i=>decide (0<=i)&&decide (i<N)) l
 | []=>rfl
 | t::l=>by rw[I0,D8,M8 N t,bC N l]
end
theorem Jl {L:A0} {s:AK} {a y:AV} {es l:List Ty} {K:AV->AK->Prop} (ha:Ex 0 s.ts 25 a (AQ es)) (Fz:L.rt=0) (hl:es.length+l.length<2 ^ 39) (hy:BO y (AQ l)) (h:∀ a' ts',Ex 0 ts' 25 a' (AQ (es++l))->Ew a a' s.ts ts'->K a' ⟨s.bs,ts'⟩) :
  E1 false L s 25 4 56 a y K:=by
 have h1:=Ad es;have h2:=Ad l;refine YN (m:=AQ l) ha Fz (fun r hr=>HB hr) (fun r hr=>HB hr) (by omega) (IU hy fun r hr=>HB hr) ?_ (by rw[h1,h2]; omega) (by rw[h1,h2]; omega) fun a' ts' h3 h4=>h a' ts' (by rw[FY]; exact h3) h4
 rw[Bs];intro c hc;obtain⟨p,hp,rfl⟩:=Bb.1 hc;obtain⟨r,hr,hpr⟩:=XD.1 hp;rw[Ie] at hr;obtain⟨t,_,rfl⟩:=Bb.1 hr;have:=DZ t;rw[Bs] at this;exact this _ (Ed hpr)
theorem bD {α:Type} {Ao:Nat} {g:α->List Ty->GF}:∀ (l:List α) (out B r:List Ty),out.length<=Ao->(CN (AR Ao) g l out B).1=some r->r.length<=Ao
 | [],out,B,r,ho,h=>by
  rw[CN] at h;cases h;exact ho
 | a::l,out,B,r,ho,h=>by
  rw[CN] at h;rcases hr:g a B with ⟨_|s,B1⟩
  ·rw[hr] at h; cases h
  ·rw[hr] at h
   simp only at h;cases hb:AR Ao (out++s).length with
   | true=>rw[hb] at h; cases h
   | false=>
    rw[hb] at h;exact bD l (out++s) B1 r (by simpa using hb) h
theorem QS {Ao:Nat} {ex:List Ty->GF} {v:Nat}:∀ (f:Nat) (t:Ty) (B r:List Ty),(B8 (AR Ao) ex v f t B).1=some r->r.length<=Ao+1
 | 0,t,B,r,h=>by
  rw[B8] at h;cases h;simp
 | f+1,t,B,r,h=>by
  rw[B8] at h;cases ho:C6 v false t with
  | false=>rw[ho] at h; cases h; simp
  | true=>
   rw[ho] at h;simp only[AE] at h;rcases he:ex B with ⟨_|cs,B1⟩
   ·rw[he] at h; cases h
   ·rw[he] at h
    have:=bD cs [] B1 r (by simp) h;omega
section
variable {R:RT}
def WA (R:RT) (e Ao f:Nat) (args:List AV) (o:GF) (B:List Ty) (s:AK):Prop:=∀ (L:A0) (d:AV),L.ro=0->L.rt=0->s.bs[e]?=some [d,AD Ao]->Ex 0 s.ts 25 d (AQ B) ->
 ∃ v s',(∃ d' ts',xo v o.1/\Ex 0 ts' 25 d' (AQ o.2)/\Ew d d' s.ts ts'/\s'=⟨s.bs.set e [d',AD Ao],ts'⟩)/\BC (env R) L f (.ptr e 0::args) s v s'
end
end Go.Proofs.YtpgfpakdnijngaaGreatDoor
