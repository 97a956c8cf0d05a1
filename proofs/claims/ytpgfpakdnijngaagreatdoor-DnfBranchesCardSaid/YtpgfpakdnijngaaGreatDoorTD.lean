/-
  A branch's body with its placeholders numbered: the whole term.
-/
import Derived.Test.YtpgfpakdnijngaaGreatDoorTC
import Derived.Test.YtpgfpakdnijngaaGreatDoorTB
import Derived.Test.YtpgfpakdnijngaaGreatDoorW1
set_option linter.all false
namespace Go.Proofs.YtpgfpakdnijngaaGreatDoor
open Go.Tel
open List renaming length->F
open Option renaming some->Y,none->G
open Bool renaming true->Z,false->ϴ
attribute [local simp] Hr MD Ir JL EK E3 Ee wO setCells Hw EX Dd Co Ex alive Dh Jf Qk bU Gq Iu Gl Hs K9 Iv gX fY okB gY gZ gh gi gj ag gm gp gu gv gw gx gy gz hG hJ hO okF hY iA iB iC iD Tu iE Ow Ox Oy Oz iG iH iI iJ iK iL iM iP iQ iR GG iT fZ iU iV iW iX iY iZ ia ic ie ig C0
mutual
theorem TE (N:Nat):∀(t:Ty) (o:Ϟ),F (Lc N t o).2<=F o+AP t
 | .mk k n i ts,o=>by
  have:=c9 N ts o
  grind[Lc,AP]
theorem c9 (N:Nat):∀(l:Ϣ) (o:Ϟ),F (HL N l o).2<=F o+Ak l
 | [],_=>Ni _ _
 | t::l,o=>by
  have b:=TE N t o;have d:=c9 N l (Lc N t o).2
  grind[HL,Ak]
end
theorem BD.agg {t:Ty} {x:AV} (h:BD t x):∃cs,x=.agg cs:=by
 obtain⟨k,n,i,ts⟩:=t;obtain⟨a,rfl,_⟩:=h;simp
def Ah.open {E:Env} {f:FuncId} {args args':Ϭ} {Post:AV->Prop} (e:E.kind f=.rd) (i:E.clone f=ϴ) (j:F args=F args') (k:BZ [] 0 0 args=Y args') (l:BZ [] 0 0 args'=Y args') (h:Ah E f args' Post):Ah E f args Post:=by
 obtain⟨v,b,d⟩:=h;refine⟨v,b,λL s=>?_⟩;have⟨n,hn⟩:=d L s;refine⟨n,λm hm=>?_⟩;rw[<-hn m hm];cases m with
 | zero=>rfl
 | succ m=>
  grind[Dk,Ed]
def BD.Ik {t:Ty} {x:AV} (h:BD t x) (bs:Ϩ) (n m:Nat):close bs n m x=Y x:=by
 obtain⟨k,c,i,ts⟩:=t;obtain⟨a,rfl,b⟩:=h;simp[b.close]
section
variable {R:RT}
def NQ (hn:Mm R) {N:Nat} (d:N<=2 ^ 40) {k i:Int} {n:Ϝ} {ts:Ϣ} (e:Ez N (.mk k n i ts)=Z) {x:AV} (hx:BX (ren (.mk k n i ts)) x) :
  Ah (env R) 92 [x] λr=>r=bif k==7 then .tuple [AG i,BB Z] else .tuple [AG 0,BB ϴ]:=by
 have⟨f,j,b⟩:=hx.closed [] 0;exact Ah.open (args':=[f]) AX AX rfl (by simp[*]) (by simp[BZ,b.Ik]) (Oa hn d e b)
end
section
variable {R:RT}
mutual
def dA (hn:Mm R) {P A Bz e N:Nat} {B:Ϣ} (W:F B=N) (γ:N<=2 ^ 40):∀(t:Ty),AP t<2 ^ 38->Ez N t=Z->∀(x:AV),BX (ren t) x->∀(o:Ϟ) (s:AY),BM s->WS P A Bz e B s.bs->F o+AP t<2 ^ 40->uD R P A Bz N x o t s
 | .mk k n i ts,h,u,x,hx,o,s,E,H,hb,L,c,μ,ν,hA,r=>by
  have ρ:=(BJ.1 hA).1;have Λ:=Bl ts;have C:=NQ hn γ u hx;rw[Ez] at u;simp only[AP] at h hb;refine m91 (by simp[Da,F9]) ?_;rw[μ,ν];have Θ:s.bs.set A [c]=s.bs:=by grind[List.set_getElem_self]
  by_cases X:k=7
  .subst X
   simp only[CS,AQ,AK,Eu,Cu] at u;obtain⟨ξ,ο,Ξ⟩:=u;subst ξ;have α:ren (.mk 7 n i [])=.mk 2 (36::Hf i.toNat) 0 []:=rfl;rw[α] at hx;obtain⟨a,rfl,y⟩:=hx;generalize (36::Hf i.toNat)=f at C;have g:=Am (A0 s.bs [AG 2,SS f,AG 0,a]) Z4;have K:=A0 (s.bs++[[AG 2,SS f,AG 0,a]]) Z4;have z:=Am (Am hA [AG 2,SS f,AG 0,a]) Z4;have gP:=Am (Am H.hP [AG 2,SS f,AG 0,a]) Z4;have⟨d,m,ς,σ⟩:=H.he;have M:=Am (Am ς [AG 2,SS f,AG 0,a]) Z4;have D:(s.bs++[[AG 2,SS f,AG 0,a]]++[Z4]).take (F s.bs)=s.bs.set A [c]:=AB;have ε:F (s.bs++[[AG 2,SS f,AG 0,a]])=F s.bs+1:=AD;refine AB4 (Bs (cs:=[AG 2,SS f,AG 0,a]) rfl (by simp[y.ok]) (Bh ?_));simp only[ε];rw[ε] at K;generalize Φ:s.bs++[[AG 2,SS f,AG 0,a]]++[Z4]=τ at g K z gP M D;refine Ag g rfl (AI C ?_);rintro _ rfl;refine B9 rfl (B9 rfl (Aw (Aw (Ad gP rfl (Aw (DK (Ab M) (Aw (AR (Ab M) (Aw (Ad M rfl (Aw (Au (n:=N) (by rw[σ.BG,Ae,W]) (Aw (Ao (pk ?_)))))))))))))));rw[Ax AA];refine BH (Ad z rfl (AI (jN (l:=jO o) AB r.BA) ?_));rintro _ rfl;rw[zl o ο]
   have S:(Lc N (.mk 7 n i []) o)=match o.findIdx? (·==i.toNat) with
     | some j=>(var j,o)
     | none=>(var (F o),o++[i.toNat]):=by grind[Lc]
   rw[S]
   have δ:∀(j:Int) (b:AV) (p:Ϫ) (I:Ϩ) (Q:Ϡ),A6 (F s.bs) b=Z->I.take (F s.bs)=s.bs.set A [b]->I[F s.bs+1]?=Y Z4->(∀m,BX (ren (var j)) (.agg m)->Q (.agg m) ⟨s.bs.set A [b],p⟩) ->
     AB5 R 0 0 0 (.ptr (F s.bs+1) 0) (AG j) ⟨I,p⟩ (QM (L.rr 91) (F s.bs) Q):=by
    intro j b p I Q hid O ζ υ;refine AMq (FV (cs:=[AG 5,SS [],AG j,.AE []]) rfl (Bn ζ rfl rfl AH (AO _) rfl (.inl (AO _)) (Ag (BT ζ) rfl ?_)));exact cz E ((Cf AA).trans O) (by grind[Ap]) rfl (υ _ ⟨_,rfl,.inl (.AE _)⟩)
   cases hf:o.findIdx? (·==i.toNat) with
   | some j=>
    refine Ao ?_;rw[A5 AD];exact A4 (δ j c s.ts τ _ (r.BA.A6 _) D K λm T=>⟨c,s.ts,m,r,Cx.refl _ _,rfl,T,rfl⟩)
   | none=>
    refine Ao ?_;rw[Ax AD];refine BH (Ad z rfl (Au (n:=F o) (by rw[r.BA.BG,BP,Bj]) (Ad z rfl (QE ⟨AH,cy r rfl AB λb p U π=>?_⟩))));refine C1 z AD U.BA.cells (AO _) U.BA.ok (.inl (AO _)) ?_;have O:=Ep (j:=A) (c:=[b]) D;rw[Ib] at O;have Ψ:((i.toNat:Nat):Int)=i:=AA;refine⟨Ad z rfl (by rcases r with rfl|⟨t,rfl,_⟩ <;> simp[Tel.D9,MF]),Au (n:=F o) (by rw[r.BA.BG,BP,Bj]) (by simp[Tel.D9,OH,F7]),?_⟩;refine δ (F o) b p _ _ (U.BA.A6 _) O (BR K AA) λm T=>⟨b,p,m,?_,π,rfl,T,rfl⟩
    grind
  .have φ:(k==7)=false:=by grind
   have α:=HF k n i ts X;rw[α] at hx;rw[φ] at u C;simp only[AL,AK] at u C;obtain⟨a,rfl,y⟩:=hx;have⟨β,χ,ψ⟩:=I7 (s:=s) (c:=[AG k,SS n,AG i,a]) (d:=[AG k,SS n,AG i,.AE []]);have η:=Am (A0 s.bs [AG k,SS n,AG i,a]) Z4;have S:Lc N (.mk k n i ts) o=(.mk k n i (HL N ts o).1,(HL N ts o).2):=by grind[Lc]
   rw[S];refine AB4 (Bs (cs:=[AG k,SS n,AG i,a]) rfl (by simp[y.ok]) (Bh (Ag η rfl (AI C ?_))));rintro _ rfl;refine B9 rfl (B9 rfl (B7 (B7 (B7 (B7 (B7 (B7 (B7 (pk (A4 (AMr (Ag η rfl (Bh ?_)))))))))))));refine Bn (old:=Z4) (A0 _ _) rfl rfl AH (AO _) (by simp[y.ok]) (.inl (AO _)) ?_;have e:((s.bs++[[AG k,SS n,AG i,a]]++[Z4]++[Z4]).set (F (s.bs++[[AG k,SS n,AG i,a]]++[Z4])) [AG k,SS n,AG i,a])=(Gp s [AG k,SS n,AG i,a] [AG k,SS n,AG i,a]).bs:=by grind[Gp]
   have θ:F (s.bs++[[AG k,SS n,AG i,a]]++[Z4])=F s.bs+2:=AD;have ι:F (s.bs++[[AG k,SS n,AG i,a]])=F s.bs+1:=AD;simp only at e θ ι ⊢;rw[e];simp only[θ,ι];have⟨_,_,κ⟩:=I7 (s:=s) (c:=[AG k,SS n,AG i,a]) (d:=[AG k,SS n,AG i,a]);refine AR (Ab κ) (C1 (off:=3) κ (AU 4) rfl (AO _) rfl (.inl (AO _)) ?_);have ω:(Gp s [AG k,SS n,AG i,a] [AG k,SS n,AG i,a]).bs.set (F s.bs+2) ([AG k,SS n,AG i,a].set 3 (.AE []))=(Gp s [AG k,SS n,AG i,a] [AG k,SS n,AG i,.AE []]).bs:=by simp[*,Gp]
   show Ex ⟨(Gp s [AG k,SS n,AG i,a] [AG k,SS n,AG i,a]).bs.set (F s.bs+2) ([AG k,SS n,AG i,a].set 3 (.AE [])),s.ts⟩ _ _ _
   rw[ω];refine AR (Ab β) (Ad β rfl (Au (n:=F ts) (by rw[y.BG,Ae,Bx,Bj]) ?_));have D:(Gp s [AG k,SS n,AG i,a] [AG k,SS n,AG i,.AE []]).bs.take (F s.bs)=s.bs.set A [c]:=by simp[*,Gp]
   refine uE W y AA X (o0:=o) (c0:=c) E ρ H (λt hm o s E H hb=>Xf hn W γ ts AA u.2.2 t hm o s E H hb) (λt _ o=>TE N t o) AA (λb p m Γ Δ Ω=>⟨b,p,m,Γ,Δ,rfl,?_,rfl⟩) (F ts) 0 o [] _ s.ts (.AE []) c AA AD AD rfl AD
    (TC E (by simp[Ap,A6,y.A6]) AX) D β χ ψ r (.inl rfl) (Cx.refl _ _) (Dt.AE _ _) (SZ.AE _ _)
   grind[HF]
def Xf (hn:Mm R) {P A Bz e N:Nat} {B:Ϣ} (f:F B=N) (d:N<=2 ^ 40):∀(ts:Ϣ),Ak ts<2 ^ 38->Gr N ts=Z->∀t∈ts,∀(o:Ϟ) (s:AY),BM s->WS P A Bz e B s.bs->F o+AP t<2 ^ 40->uD R P A Bz N (.agg ((Av (ren t)).map .pv)) o t s
 | [],_,_,_,h=>by cases h
 | u::l,h,b,t,hm=>by
  simp only[Ak] at h;simp only[Gr,AK] at b;rcases BF.1 hm with h' | h'
  .rw[h']
   exact dA hn f d u AA b.1 _ (BD.Bo _).Du
  .exact Xf hn f d l AA b.2 t h'
end
end
mutual
theorem jP {N:Nat}:∀(t:Ty) (o:Ϟ),Ez N t=Z->(∀x∈o,x<N)->∀x∈(Lc N t o).2,x<N
 | .mk k n i ts,o,h,b=>by
  rw[Ez] at h;rw[Lc];cases d:(k==7) with
  | true=>
   grind
  | false=>
   rw[d] at h;simp only[AL,AK] at h;exact mC ts o h.2.2 b
theorem mC {N:Nat}:∀(l:Ϣ) (o:Ϟ),Gr N l=Z->(∀x∈o,x<N)->∀x∈(HL N l o).2,x<N
 | [],_,_,b=>b
 | t::l,o,h,b=>by
  simp only[Gr,AK] at h;exact mC l _ h.2 (jP t o h.1 b)
end
mutual
def mD {N:Nat}:∀(t:Ty) (o:Ϟ),Ez N t=Z->ren (Lc N t o).1=(Lc N t o).1
 | .mk k n i ts,o,h=>by
  rw[Ez] at h;rw[Lc];cases b:(k==7) with
  | true=>
   rw[b] at h;simp only[AQ,AK,Cu] at h;simp only[Cm,h.2.2,decide_true,AQ];split <;> rfl
  | false=>
   rw[b] at h;simp only[AL,AK] at h;simp only[HB,AL];rw[HF _ _ _ _ AB,dB ts o h.2.2]
def dB {N:Nat}:∀(l:Ϣ) (o:Ϟ),Gr N l=Z->CO (HL N l o).1=(HL N l o).1
 | [],_,_=>rfl
 | t::l,o,h=>by
  simp only[Gr,AK] at h;simp only[HL,CO,mD t o h.1,dB l _ h.2]
end
def E5 {l m:Ϩ} {j n:Nat} {v:Ϭ} (hn:F l=n) (h:m[j]?=Y v):(l++m)[n+j]?=Y v:=AB
def Zg {l m:Ϩ} {j n:Nat} {v:Ϭ} (hn:F l=n):(l++m).set (n+j) v=l++m.set j v:=by
 rw[<-hn,Yk _ _ AA,Nat.add_sub_cancel_left]
theorem Un {rr:Bool} {cs ds:Ϭ} {s0:AY} {bs:Ϩ} {ts:Ϫ} {Post:Ϡ} (e:BM s0) (f:bs.take (F s0.bs)=s0.bs) (d:BZ bs (F s0.bs) (F ts) cs=Y ds) (i:Post (.agg ds) ⟨s0.bs,ts⟩):QM rr (F s0.bs) Post (.agg cs) ⟨bs,ts⟩:=by
 refine Zf (ds:=ds) ?_ d ?_
 .rw[Cl]
  intro b hb;exact e b AB
 grind
abbrev Z5:Ϭ:=.AE []::Z4
def CL (b:Br) (x:AV):Prop:=∃a y,x=.agg (a::y)/\BN a (Aj b.AN)/\BX b.AM (.agg y)
section
variable {R:RT}
def dD {e:Nat} {B:Ϣ} (Q:∀t∈B,shT t/\N4 t=Z) {o:Ϟ} (S:∀x∈o,x<F B) (ι:F o<2 ^ 38) {s0:AY} (L:BM s0) {d:AV} {H:Ϭ} (μ:s0.bs[e]?=Y (d::H)) (T:BN d (Aj B)) {xs y:Ϭ} {t:Ty} (s:BX t (.agg y)) {c f:AV} (U:BN c (Ai (jO o)))
  {rr:Bool} {Post:Ϡ} (W:∀v C,CL ⟨o.map λx=>B.getD x XL,t⟩ v->Cx (.AE []) (.AE []) s0.ts C->Post v ⟨s0.bs,C⟩) :
  ∀(j q:Nat) (tk:Ϫ) (b:AV),q+j=F o->D1 0 tk 25 b (Aj ((o.take q).map λx=>B.getD x XL))->Cx (.AE []) (.AE []) s0.ts tk->Dt b s0.ts ->
   uF R 0 0 0 (.ptr (F s0.bs) 0) (.ptr (F s0.bs+2) 0) (.ptr (F s0.bs+5) 0) c (AG (F o)) (AG q) ⟨s0.bs++[[.ptr e 0],xs,Z5,[c],[f],b::y],tk⟩ (QM rr (F s0.bs) Post):=by
 have M:F y=4/\y.all BS=true:=by
  obtain⟨k,n,i,ts⟩:=t;obtain⟨a,s,X⟩:=s;cases s;exact⟨rfl,by simp[X.ok]⟩
 intro j
 induction j with
 | zero=>
  intro q tk b α hb z hF;refine AB6 (Ao ?_);rw[A5 AA];rw[CC AA] at hb;have l:(s0.bs++[[.ptr e 0],xs,Z5,[c],[f],b::y])[F s0.bs+5]?=Y (b::y):=E5 rfl rfl;have I:(s0.bs++[[.ptr e 0],xs,Z5,[c],[f],b::y])[F s0.bs+2]?=Y Z5:=E5 rfl rfl;refine A4 (AMs (Ag l AB (Bn I AB rfl AH (AO _) (by simp only[FX,hb.BA.ok,M.2,F0]) (.inl (AO _)) (Ag (BT I) AB ?_))));have⟨m,ν,β⟩:=hb.BA.close ((s0.bs++[[.ptr e 0],xs,Z5,[c],[f],b::y]).set (F s0.bs+2) (b::y)) (F s0.bs) (F tk);have⟨K,ξ,γ⟩:=s.Jk ((s0.bs++[[.ptr e 0],xs,Z5,[c],[f],b::y]).set (F s0.bs+2) (b::y)) (F s0.bs) (F tk);refine Un (ds:=m::K) L ?_ HG (W _ tk ⟨m,K,rfl,β,γ⟩ z);simp
 | succ j N=>
  intro q tk b α hb z hF;refine AB6 (Ao ?_);rw[Ax AA];have⟨u,δ⟩:∃u,o[q]?=Y u:=⟨_,Az AA⟩;have κ:=S u (A8 δ);have O:B[u]?=Y (B.getD u XL):=AB;have hm:=Q _ (A8 O);have ε:(s0.bs++[[.ptr e 0],xs,Z5,[c],[f],b::y])[F s0.bs]?=Y [.ptr e 0]:=E5 (j:=0) rfl rfl;have l:(s0.bs++[[.ptr e 0],xs,Z5,[c],[f],b::y])[F s0.bs+5]?=Y (b::y):=E5 rfl rfl;have A:(s0.bs++[[.ptr e 0],xs,Z5,[c],[f],b::y])[e]?=Y (d::H):=AB;refine BH (AMt (Bc U (row:=[.sc (.int .i64 u)]) AA (by simp[*,Ai]) rfl AA (Ds (AR (Ab l) (Ad l rfl (Ad ε rfl (DK (Ab A) (AR (Ab A) (Ad A rfl (Bc T (row:=Av (B.getD u XL)) AA (by grind[BK]) (Aq _) AA (Cd (AI (NN hm.1 hm.2 (BD.Bo _)) ?_))))))))))));intro r ζ;refine Eg ζ.Du ⟨AH,Jj hb rfl AB λm D p E=>?_⟩;have η:((o.take q).map λx=>B.getD x XL)++[B.getD u XL]=(o.take (q+1)).map λx=>B.getD x XL:=by grind[List.take_add_one]
  rw[η] at p;refine AR (Ab l) (C1 l AD p.BA.cells (AO _) p.BA.ok (.inl (AO _)) ?_);have θ:(s0.bs++[[.ptr e 0],xs,Z5,[c],[f],b::y]).set (F s0.bs+5) (m::y)=s0.bs++[[.ptr e 0],xs,Z5,[c],[f],m::y]:=Zg rfl;refine⟨AR (Ab l) (D8 _ _),Ad l rfl (Fm hb),AMu (Bb AA AA ?_)⟩
  show uF R _ _ _ _ _ _ _ _ _ ⟨(s0.bs++[[.ptr e 0],xs,Z5,[c],[f],b::y]).set (F s0.bs+5) (m::y),D⟩ _
  rw[θ];have:=N (q+1) D m AA p (z.side E hF) (hF.QG E z.1)
  grind
def NR (hn:Mm R) {e:Nat} {B:Ϣ} (Q:F B<=2 ^ 40) (β:∀t∈B,shT t/\N4 t=Z) {p:Ty} (γ:AP p<2 ^ 38) (C:Ez (F B) p=Z) {x:AV} (hx:BX (ren p) x) {s:AY} (hs:BM s) {d:AV} {D:Ϭ} (H:s.bs[e]?=Y (d::D)) (I:BN d (Aj B)) {L:Ba} (S:L.ro=0) (T:L.rt=0) :
  ∃v E,(∃m,CL (Gc B p) v/\Cx (.AE []) (.AE []) s.ts m/\E=⟨s.bs,m⟩)/\Bk (env R) L 45 [.ptr e 0,x] s v E:=by
 refine m45 AX ?_;rw[S,T];have ξ:=(BJ.1 H).1;have U:=hx
 obtain⟨k,n,i,ts,δ⟩:∃k n i ts,ren p=.mk k n i ts:=by
  have⟨k,n,i,ts⟩:=ren p;simp
 rw[δ] at hx;obtain⟨a,rfl,u⟩:=hx;have W:=TE (F B) p [];refine AMv (Bs (cs:=[.ptr e 0]) rfl rfl (Bs (cs:=[AG k,SS n,AG i,a]) rfl (by simp[u.ok]) (Bh (Bh (Bh ?_)))));simp only[EG,DV,Ct,B6,CP,CQ,CY,Nat.reduceAdd];have ε:(s.bs++[[.ptr e 0],[AG k,SS n,AG i,a],Z5,[.AE []],[.pv (.sc .nilFunc)]])[F s.bs+4]?=Y [.pv (.sc .nilFunc)]:=E5 rfl rfl;refine C1 ε AH rfl (AO _) rfl (.inl (AO _)) ?_;have e4:∀c,(s.bs++[[.ptr e 0],[AG k,SS n,AG i,a],Z5,[.AE []],[.pv (.sc .nilFunc)]]).set (F s.bs+4) c=s.bs++[[.ptr e 0],[AG k,SS n,AG i,a],Z5,[.AE []],c]:=λ_=>Zg rfl
 simp only[e4,List.set_cons_zero];generalize r:s.bs++[[.ptr e 0],[AG k,SS n,AG i,a],Z5,[.AE []],[c8 (F s.bs) (F s.bs+3) (F s.bs+4)]]=j;have X:F j=F s.bs+5:=AB;have k0:j[F s.bs]?=Y [.ptr e 0]:=AB;have k1:j[F s.bs+1]?=Y [AG k,SS n,AG i,a]:=by rw[<-r]; simp
 have k3:j[F s.bs+3]?=Y [.AE []]:=by rw[<-r]; simp
 have k4:j[F s.bs+4]?=Y [c8 (F s.bs) (F s.bs+3) (F s.bs+4)]:=AB;have ζ:j[e]?=Y (d::D):=AB
 have α:BM ⟨j,s.ts⟩:=by
  intro b hb;rw[<-r] at hb;simp only[CU,BF,ER,ES] at hb
  show Ap (F j) b=Z
  rw[X];rcases hb with hb|rfl|rfl|rfl|rfl|rfl
  .exact BV AA b (hs b hb)
  .simp[Ap,A6]; omega
  .simp[Ap,A6,u.A6]
  all_goals simp[*,Ap,A6]
 refine Ad k4 rfl (Ag k1 rfl ?_);obtain⟨v,E,⟨o,m,l,K,M,rfl,y,rfl⟩,η⟩:=dA hn (e:=e) (P:=F s.bs) (A:=F s.bs+3) (Bz:=F s.bs+4) (N:=F B) rfl Q p γ C _ U [] ⟨j,s.ts⟩ α ⟨k0,k4,⟨d,D,ζ,I⟩,AA,AA,AA⟩ AB (Co (env R) 45 0 0 0) (.AE []) rfl rfl k3 (.inl rfl);rw[mD p [] C] at y
 have z:F l=4/\l.all BS=true:=by
  generalize (Lc (F B) p []).1=t at y;obtain⟨k,n,i,ts⟩:=t;obtain⟨a,θ,u⟩:=y;cases θ;exact⟨rfl,by simp[u.ok]⟩
 have O:∀f,(s.bs++[[.ptr e 0],[AG k,SS n,AG i,a],Z5,[o],[f],Z5]).set (F s.bs+5) (.AE []::l)=s.bs++[[.ptr e 0],[AG k,SS n,AG i,a],Z5,[o],[f],.AE []::l]:=λ_=>Zg rfl
 refine⟨_,_,η,FV (cs:=.AE []::l) ?_ ?_⟩
 .simp only[Ee,cellsOf,z.1,z.2,CP,CQ,and_self,Nat.reduceAdd,AU,HA]
  match l,z.1 with
  | [ο,π,ρ,ς],_=>rfl
 .subst r
  have e3:∀c,(s.bs++[[.ptr e 0],[AG k,SS n,AG i,a],Z5,[.AE []],[c8 (F s.bs) (F s.bs+3) (F s.bs+4)]]).set (F s.bs+3) c=s.bs++[[.ptr e 0],[AG k,SS n,AG i,a],Z5,c,[c8 (F s.bs) (F s.bs+3) (F s.bs+4)]]:=λ_=>Zg rfl
  simp only[e3];refine Bh ?_;simp only[EG,DV,Ct,B6,CP,CQ,CY,Nat.reduceAdd];have ι:(s.bs++[[.ptr e 0],[AG k,SS n,AG i,a],Z5,[o],[c8 (F s.bs) (F s.bs+3) (F s.bs+4)],Z5])[F s.bs+5]?=Y Z5:=E5 rfl rfl;refine Bn ι AB rfl AH (AO _) (by simp[*]) (.inl (AO _)) ?_;simp only[O];have κ:(s.bs++[[.ptr e 0],[AG k,SS n,AG i,a],Z5,[o],[c8 (F s.bs) (F s.bs+3) (F s.bs+4)],.AE []::l])[F s.bs+3]?=Y [o]:=E5 rfl rfl;refine Ad κ rfl (Au (n:=F (Lc (F B) p []).2) (by rw[K.BA.BG,BP,Bj]) ?_);simp only[CQ] at W;exact dD β (jP p [] C AD) AA hs H I y K.BA (λv m μ ν=>⟨m,μ,ν,rfl⟩) (F (Lc (F B) p []).2) 0 m (.AE []) AA (.inl rfl) ⟨M.1,M.2.1,.inl rfl⟩ (Dt.AE _ _)
end
mutual
def jQ (m:Int->Bool) (b:Ty):Ty->Int->Ty
 | .mk c n i ts,k=>bif c==7 then(bif m i&&k==0 then b else .mk c n i ts) else bif c==3 then .mk c n i (RI m b ts k) else .mk c n i ts
def RI (m:Int->Bool) (b:Ty):Ϣ->Int->Ϣ
 | [],_=>[]
 | t::l,k=>jQ m b t k::RI m b l (k-Bi m t)
end
mutual
def mE (m:Int->Bool) (b:Ty):∀(t:Ty) (k:Int),k<0\/(Bi m t:Int)<=k->jQ m b t k=t
 | .mk c n i ts,k,h=>by
  rw[Bi] at h;rw[jQ];cases d:c==7 with
  | true=>
   grind
  | false=>
   cases e:c==3 with
   | true=>
    rw[d,e] at h;simp only[AQ,AL] at h ⊢;rw[Uo m b ts k h]
   | false=>rfl
def Uo (m:Int->Bool) (b:Ty):∀(l:Ϣ) (k:Int),k<0\/(Cz m l:Int)<=k->RI m b l k=l
 | [],_,_=>rfl
 | t::l,k,h=>by
  rw[Cz] at h;rw[RI,mE m b t k AA,Uo m b l (k-Bi m t) AA]
end
mutual
def jR (m:Int->Bool) (b:Ty):∀(t:Ty) (k:Nat),k<Bi m t->jQ m b t k=JM m b t k
 | .mk c n i ts,k,h=>by
  rw[Bi] at h;rw[jQ,JM];cases d:c==7 with
  | true=>
   grind
  | false=>
   cases e:c==3 with
   | true=>
    rw[d,e] at h;simp only[AQ,AL] at h ⊢;rw[mF m b ts k h]
   | false=>rfl
def mF (m:Int->Bool) (b:Ty):∀(l:Ϣ) (k:Nat),k<Cz m l->RI m b l k=Ka m b l k
 | [],_,h=>by rfl
 | t::l,k,h=>by
  rw[Cz] at h;rw[RI,Ka]
  by_cases d:k<Bi m t
  .rw[Ax d,AQ,jR m b t k d,Uo m b l _ AA]
  .have:(k:Int)-(Bi m t:Nat)=((k-Bi m t:Nat):Int):=by omega
   rw[A5 d,AL,mE m b t k AA,this,mF m b l (k-Bi m t) AA]
end
section
variable {R:RT}
def uG {V:Nat} {v:Nat} {i:Int} {s:AY} (hs:BM s) (d:s.bs[V]?=Y [AG v]) (L:Ba):Bk (env R) L 137 [AG i,.ptr V 0] s (BB (i==(v:Int))) s:=by
 obtain⟨w,b,⟨rfl,rfl⟩,e⟩:=AWe (R:=R) (L:=L) (s:=s) (t0:=AG i) (t1:=.ptr V 0) (Post:=λw b=>w=BB (i==(v:Int))/\b=s) AX (AGQ (Ad d rfl (BE (by
  have:=Ji (rr:=L.rr 137) hs (m:=[]) (p:=.sc (.bool (i==(v:Int)))) (Post:=λw b=>w=BB (i==(v:Int))/\b=s) ⟨rfl,rfl⟩
  simp_all))))
 omega
structure RcF (R:RT) (C:Nat) (f:FuncId) (cap:Ϭ) (m:Int->Bool) (Q:Ϩ->Prop):Prop where
 call:∀bs tk,BM ⟨bs,tk⟩->Q bs->∀(i:Int) (L:Ba),Bk (env R) L f (AG i::cap) ⟨bs,tk⟩ (BB (m i)) ⟨bs,tk⟩
 set:∀bs c,Q bs->Q (bs.set C c)
 ext:∀(bs bs0:Ϩ) (n:Nat),Q bs0->bs.take n=bs0->Q bs
def AGR {C V:Nat} (hCV:C≠V) (v:Nat):RcF R C 137 [.ptr V 0] (·==(v:Int)) (λbs=>bs[V]?=Y [AG v]) where
 call:=λbs tk hs hV i L=>uG hs hV L
 set:=λbs c h=>BR h hCV
 ext:=λbs bs0 n h hT=>CN hT h
def AGS (R:RT) (C:Nat) (f:FuncId) (cap:Ϭ) (m:Int->Bool) (Q:Ϩ->Prop) (b:Ty) (y:AV) (x:AV) (t:Ty) (k:Int) (s:AY):Prop:=∀(L:Ba),L.ro=0->L.rt=0->s.bs[C]?=Y [AG k]->Q s.bs ->
 ∃w e,(∃d i,w=.agg i/\BX (ren (jQ m b t k)) (.agg i)/\Cx (.AE []) (.AE []) s.ts d/\e=⟨s.bs.set C [AG (k-Bi m t)],d⟩)/\Bk (env R) L 59 [x,.ptr C 0,.func (.func f) [] cap,y] s w e
def zm {C:Nat} {f:FuncId} {cap:Ϭ} {m:Int->Bool} {Q:Ϩ->Prop} (X:RcF R C f cap m Q) {b:Ty} {yc:Ϭ} {ts:Ϣ} {a:AV} (ρ:BN a (Aj (CO ts))) (a4:Ak ts<2 ^ 38) {k i k0:Int} {n:Ϝ} (Φ:k≠7) (Ψ:-(2 ^ 40)-2 ^ 38<=k0-Ak ts) (Ω:k0<2 ^ 40) {s0:AY} (ζ:BM s0) (ς:C<F s0.bs) (σ:Q s0.bs) (η:F yc=4)
  (τ:∀t∈ts,∀(k:Int) (s:AY),BM s->-(2 ^ 40)-2 ^ 38<=k-AP t->k<2 ^ 40->AGS R C f cap m Q b (.agg yc) (.agg ((Av (ren t)).map .pv)) t k s)
  {rr:Bool} {Post:Ϡ}
  (υ:∀o ds,Cx (.AE []) (.AE []) s0.ts o->BX (.mk k n i (CO (RI m b ts k0))) (.agg ds)->Post (.agg ds) ⟨s0.bs.set C [AG (k0-Cz m ts)],o⟩) :
  ∀(j q:Nat) (d:Int) (done:Ϣ) (bs:Ϩ) (tk:Ϫ) (acc:AV),q+j=F ts->done++RI m b (ts.drop q) d=RI m b ts k0->F done=q->d-Cz m (ts.drop q)=k0-Cz m ts->k0-Ak ts<=d-Ak (ts.drop q)->d<2 ^ 40 ->
   BM ⟨bs,tk⟩->bs.take (F s0.bs)=s0.bs.set C [AG d]->bs[F s0.bs+1]?=Y yc->bs[F s0.bs+2]?=Y Z4->bs[F s0.bs+3]?=Y [AG k,SS n,AG i,acc] ->
   D1 0 tk 25 acc (Aj (CO done))->Cx (.AE []) (.AE []) s0.ts tk->Dt acc s0.ts ->
   AB7 R 0 0 0 (.ptr C 0) ((.func (.func f) [] cap)) (.ptr (F s0.bs+1) 0) (.ptr (F s0.bs+2) 0) (.ptr (F s0.bs+3) 0) a (AG (F ts)) (AG q) ⟨bs,tk⟩ (QM rr (F s0.bs) Post):=by
 have a0:=Bl ts;intro j
 induction j with
 | zero=>
  intro q d done bs tk acc φ x θ H L M α y β z A hb u B;refine AB8 (Ao ?_);rw[A5 AA];rw[CR AA,RI,G9] at x;rw[CR AA,Cz] at H;rw[x] at hb;refine A4 (AMx (Ag A rfl (Bn z rfl rfl AH (AO _) (by simp[hb.BA.ok]) (.inl (AO _)) (Ag (BT z) rfl ?_))));have⟨ds,χ,ψ⟩:=BX.Jk (v:=.mk k n i (CO (RI m b ts k0))) (cs:=[AG k,SS n,AG i,acc]) ⟨acc,rfl,hb.BA⟩ (bs.set (F s0.bs+2) [AG k,SS n,AG i,acc]) (F s0.bs) (F tk);have ι:d=k0-Cz m ts:=AA;rw[ι] at y;exact cz ζ ((Cf AA).trans y) rfl χ (υ tk ds u ψ)
 | succ j κ=>
  intro q d done bs tk acc φ x θ H L M α y β z A hb u B;refine AB8 (Ao ?_);rw[Ax AA];have⟨t,γ⟩:∃t,ts[q]?=Y t:=⟨_,Az AA⟩;have a1:(CO ts)[q]?=Y (ren t):=by simp[*,Bx]
  have μ:=A8 γ;have D:F ((Av (ren t)).map AV.pv)=4:=by grind[Aq]
  have N:=DG (ren t)
  have O:Ap (F bs+1) ((Av (ren t)).map AV.pv)=true:=by
   have⟨k1,a5,a6,a7⟩:=ren t;rfl
  refine BH (AMy (Bc ρ (row:=Av (ren t)) AA (by simp[*,BK]) (Aq _) AA (Cd (Bh ?_))));have S:=τ t μ;have E:ts.drop q=t::ts.drop (q+1):=drop_cons γ;rw[E,RI] at x;rw[E,Cz] at H;rw[E,Ak] at L;have a2:=MO m t;generalize (Av (ren t)).map AV.pv=l at D N O S;refine Bn (A0 bs Z4) D rfl AH (AO _) N (.inl (AO _)) ?_;have e:(bs++[Z4]).set (F bs) l=bs++[l]:=AD;rw[e];have a8:=(BJ.1 A).1;have ν:F s0.bs<=F bs:=AA;have T:=(DL ν l).trans y;have U:BM ⟨bs++[l],tk⟩:=BM.app (s:=⟨bs,tk⟩) α O;have ω:(s0.bs.set C [AG d])[C]?=Y [AG d]:=by rw[Cv ς]
  have Γ:=X.set s0.bs [AG d] σ;obtain⟨w,a9,⟨o,ds,rfl,Δ,I,rfl⟩,Θ⟩:=S d ⟨bs++[l],tk⟩ U AA M (Co (env R) 59 0 0 0) rfl rfl (CN T ω) (X.ext _ _ _ Γ T);have δ:=Am β l;have Λ:=Am z l;have K:=Am A l;have p:((bs++[l]).set C [AG (d-Bi m t)])[F s0.bs+3]?=Y [AG k,SS n,AG i,acc]:=BR K AA;refine AR (Ab K) (Ad K rfl (Ag (A0 bs l) D (Ag δ η ⟨_,_,Θ,Eg Δ ⟨AH,Jj (I.keep hb (λ_ h=>by cases h)) rfl ?_ ?_⟩⟩)))
  .grind[Bx]
  .intro ε ξ r W
   have Ξ:CO done++[ren (jQ m b t d)]=CO (done++[jQ m b t d]):=by simp[Bx]
   rw[Ξ] at r;refine AR (Ab p) (C1 p AD r.BA.cells (AO _) r.BA.ok (.inl (AO _)) ?_);refine⟨AR (Ab p) (D8 _ _),Ad p rfl (Fm hb),AMz (Bb AA AA ?_)⟩;have ο:(((bs++[l]).set C [AG (d-Bi m t)]).set (F s0.bs+3) [AG k,SS n,AG i,ε]).take (F s0.bs)=s0.bs.set C [AG (d-Bi m t)]:=by simp[*,Cf,Ep]
   have π:BM ⟨(bs++[l]).set C [AG (d-Bi m t)],o⟩:=BM.set (s:=⟨bs++[l],tk⟩) U rfl _
   have a3:=κ (q+1) (d-Bi m t) (done++[jQ m b t d]) _ ξ ε AA (by simp[*]) (by simp[*]) AA AA AA
    (BM.set (s:=⟨(bs++[l]).set C [AG (d-Bi m t)],o⟩) π (by simp[Ap,A6,r.BA.A6]) _) ο (BR (BR δ AA) AA) (BR (BR Λ AA) AA) (BT p)
    r ((u.trans I).side W B) (B.QG W (BC u.1 I.1))
   assumption
end
section
variable {R:RT}
def QH (hn:Mm R) {N:Nat} (e:N<=2 ^ 40) (v:Nat) (t:Ty) (inv:Bool) (hs:AP t<2 ^ 60) (f:Ez N t=Z) {x:AV} (hx:BX (ren t) x):Ah (env R) 62 [x,AG v,BB inv] λr=>r=BB (DZ v inv t):=by
 have⟨b,i,d⟩:=hx.closed [] 0;exact Ah.open (args':=[b,AG v,BB inv]) AX AX rfl (by simp[*]) (by simp[BZ,d.Ik,Tel.close]) (SD hn e v t inv hs f b d)
def Up {rr:Bool} {C:Nat} {c:Ϭ} {t:Ty} {cs:Ϭ} {s0:AY} {bs:Ϩ} {ts:Ϫ} {Post:Ϡ} (d:BM s0) (e:bs.take (F s0.bs)=s0.bs.set C c) (f:Ap (F s0.bs) c=Z) (b:BX t (.agg cs)) (i:∀ds,BX t (.agg ds)->Post (.agg ds) ⟨s0.bs.set C c,ts⟩):QM rr (F s0.bs) Post (.agg cs) ⟨bs,ts⟩:=by
 have⟨ds,j,k⟩:=b.Jk bs (F s0.bs) (F ts)
 grind[cz]
mutual
def Zh (hn:Mm R) {N:Nat} (ς:N<=2 ^ 40) {C:Nat} {f:FuncId} {cap:Ϭ} {m:Int->Bool} {Q:Ϩ->Prop} (X:RcF R C f cap m Q) {b:Ty} {y:AV} (ψ:BD (ren b) y):∀(t:Ty),AP t<2 ^ 38->Ez N t=Z->∀(x:AV),BX (ren t) x->∀(k:Int) (s:AY),BM s->-(2 ^ 40)-2 ^ 38<=k-AP t->k<2 ^ 40->AGS R C f cap m Q b y x t k s
 | .mk k n i ts,h,K,x,hx,l,s,M,Λ,σ,L,Ξ,Φ,a9,ω=>by
  have b0:=(BJ.1 a9).1;have h60:=Bl ts;have ο:=NQ hn ς K hx;rw[Ez] at K;simp only[AP] at h Λ;obtain⟨O,rfl⟩:=ψ.agg;have η:=ψ;have⟨α,τ,hyi,_⟩:=η.cells;refine m59 (by simp[Da,F9]) ?_;rw[Ξ,Φ];have b9:s.bs.set C [AG l]=s.bs:=by grind[List.set_getElem_self]
  have start:∀(z A:Int) (B:Ϝ) (a:AV) (rows:Ϯ) (H:Ϡ),BN a rows->Ah (env R) 92 [.agg [AG z,SS B,AG A,a]] (λr=>r=bif k==7 then .tuple [AG i,BB Z] else .tuple [AG 0,BB ϴ]) ->
    (∀e,e.take (F s.bs)=s.bs.set C [AG l]->BM ⟨e,s.ts⟩->F e=F s.bs+3->e[F s.bs]?=Y [AG z,SS B,AG A,a]->e[F s.bs+1]?=Y O->e[F s.bs+2]?=Y Z4 ->
     EK (BB (k==7)) (
      G4 (env R) (Co (env R) 59 0 0 0) (.func (.func f) [] cap) [AG (bif k==7 then i else 0)] ⟨e,s.ts⟩ λΨ S=>
      EK Ψ (
      Iv S (.ptr C 0) λΩ=>
      EX (env R) S G Ω λa0=>
      Dh .i64 .sub a0 (AG 1) λa1=>
      Iv S (.ptr C 0) λa2=>
      Hw (Co (env R) 59 0 0 0) S 1 a2 a1 λT=>
      Iv T (.ptr C 0) λa3=>
      EX (env R) T G a3 λa4=>
      Dh .i64 .eql a4 (AG (-1)) λa5=>
      EK a5 (
      EX (env R) T (Y 4) (.ptr (F s.bs+1) 0) λa6=>
      Hw (Co (env R) 59 0 0 0) T 4 (.ptr (F s.bs+2) 0) a6 λπ=>
      EX (env R) π (Y 4) (.ptr (F s.bs+2) 0) λr=>
      QM (L.rr 59) (F s.bs) H r π) (
      mG R 0 0 0 (.ptr (F s.bs) 0) (.ptr (F s.bs+2) 0) T (QM (L.rr 59) (F s.bs) H))) (
      mG R 0 0 0 (.ptr (F s.bs) 0) (.ptr (F s.bs+2) 0) S (QM (L.rr 59) (F s.bs) H))) (
      AB9 R 0 0 0 (.ptr C 0) (.func (.func f) [] cap) (.ptr (F s.bs) 0) (.ptr (F s.bs+1) 0) (.ptr (F s.bs+2) 0) ⟨e,s.ts⟩ (QM (L.rr 59) (F s.bs) H))) ->
    ACA R 0 0 0 (.agg [AG z,SS B,AG A,a]) (.ptr C 0) (.func (.func f) [] cap) (.agg O) s (QM (L.rr 59) (F s.bs) H):=by
   intro z A B a rows H o b1 b2;refine AM0 (Bs (cs:=[AG z,SS B,AG A,a]) rfl (by simp[o.ok]) (Bs (cs:=O) rfl τ (Bh ?_)));simp only[EG,DV,Ct,B6,CP,CQ,CY,Nat.reduceAdd];have D:(s.bs++[[AG z,SS B,AG A,a],O,Z4])[F s.bs]?=Y [AG z,SS B,AG A,a]:=E5 (j:=0) rfl rfl;refine Ag D rfl (AI b1 ?_);rintro _ rfl
   have:=b2 (s.bs++[[AG z,SS B,AG A,a],O,Z4]) AB (by
    intro d δ;simp only[CU,BF,ER,ES] at δ
    show Ap (F (s.bs++_)) d=Z
    rcases δ with δ|rfl|rfl|rfl
    .exact BV AD d (M d δ)
    .simp[Ap,A6,o.A6]
    .grind[BV]
    rfl) AD D (E5 rfl rfl) (E5 rfl rfl)
   cases a7:k==7 with
   | true=>rw[a7] at this; assumption
   | false=>simp_all
  have ρ:∀(z A:Int) (B:Ϝ) (a:AV) (u:Ϣ) (kd:Int) (e:Ϩ) (H:Ϡ),BN a (Aj u)->e.take (F s.bs)=s.bs.set C [AG kd]->e[F s.bs]?=Y [AG z,SS B,AG A,a]->e[F s.bs+2]?=Y Z4 ->
    (∀p,BX (.mk z B A u) (.agg p)->H (.agg p) ⟨s.bs.set C [AG kd],s.ts⟩)->mG R 0 0 0 (.ptr (F s.bs) 0) (.ptr (F s.bs+2) 0) ⟨e,s.ts⟩ (QM (L.rr 59) (F s.bs) H):=by
   intro z A B a u kd e H o I D E b3;refine AM1 (Ag D rfl (Bn E rfl rfl AH (AO _) (by simp[o.ok]) (.inl (AO _)) (Ag (BT E) rfl ?_)));exact Up M ((Cf AA).trans I) rfl (t:=.mk z B A u) ⟨a,rfl,o⟩ b3
  by_cases ε:k=7
  .subst ε
   simp only[CS,AQ,AK,Eu,Cu] at K;obtain⟨a8,hi0,hiN⟩:=K;subst a8;have κ:ren (.mk 7 n i [])=.mk 2 (36::Hf i.toNat) 0 []:=rfl;rw[κ] at hx;obtain⟨a,rfl,o⟩:=hx;have U:jQ m b (.mk 7 n i []) l=bif (m i)&&l==0 then b else .mk 7 n i []:=AX
   have W:Bi m (.mk 7 n i [])=bif m i then 1 else 0:=AX
   rw[U,W];refine start 2 0 (36::Hf i.toNat) a _ _ o ο λe I θ Γ D μ E=>?_
   have b4:Q e:=X.ext _ _ _ (X.set _ _ ω) I;have ζ:e[C]?=Y [AG l]:=CN I AB;refine BH ⟨_,_,X.call _ _ θ b4 i _,?_⟩;cases hiv:m i with
   | false=>
    grind[A4,Cx.refl]
   | true=>
    simp only[Cm,AQ];refine BH (DK (Ab ζ) (Ad ζ rfl (FL AA AA (DK (Ab ζ) (C1 ζ AD rfl (AO _) rfl (.inl (AO _)) ?_)))));have υ:(e.set C [AG (l-1)])[C]?=Y [AG (l-1)]:=by rw[Cv AA]
    have φ:(e.set C [AG (l-1)]).take (F s.bs)=s.bs.set C [AG (l-1)]:=by simp[*,Ep]
    refine DK (Ab υ) (Ad υ rfl (BE ?_));have b5:(l-1==-1)=(l==0):=AB;rw[b5];cases hk0:l==0 with
    | true=>
     simp only[AQ];refine BH (Ag (BR μ AA) α (Bn (BR E AA) α rfl AH (AO _) τ (.inl (AO _)) (Ag (BT (BR E AA)) α ?_)));refine Up M ((Cf AA).trans φ) rfl η.Du λp β=>⟨s.ts,p,rfl,β,Cx.refl _ _,rfl⟩
    | false=>
     simp only[AL];refine A4 (ρ 2 0 _ a [] (l-1) _ _ o φ (BR D AA) (BR E AA) λp β=>⟨s.ts,p,rfl,AB,Cx.refl _ _,rfl⟩)
  .have Δ:(k==7)=false:=by grind
   have κ:=HF k n i ts ε;rw[κ] at hx;rw[Δ] at K;simp only[AL,AK] at K;obtain⟨a,rfl,o⟩:=hx;refine start k i n a _ _ o ο λe I θ Γ D μ E=>?_
   rw[Δ];refine A4 (AM2 (AR (Ab D) (Ad D rfl (Ef ?_))));cases h3:k==3 with
   | false=>
    have ι:(k != 3)=true:=AB;rw[ι];have U:jQ m b (.mk k n i ts) l=.mk k n i ts:=by grind[jQ]
    have W:Bi m (.mk k n i ts)=0:=by grind[Bi]
    rw[U,W];have:=ρ k i n a (CO ts) l e (λw b6=>∃γ p,w=.agg p/\BX (ren (.mk k n i ts)) (.agg p)/\Cx (.AE []) (.AE []) s.ts γ/\b6=⟨s.bs.set C [AG (l-(0:Nat))],γ⟩) o I D E λp β=>⟨s.ts,p,rfl,AB,Cx.refl _ _,AD⟩
    exact BH (Ag D rfl (Bn E rfl rfl AH (AO _) (by simp[o.ok]) (.inl (AO _)) (Ag (BT E) rfl (Up M ((Cf AA).trans I) rfl (t:=.mk k n i (CO ts)) ⟨a,rfl,o⟩ λp β=>⟨s.ts,p,rfl,AB,Cx.refl _ _,AD⟩))))
   | true=>
    have ι:(k != 3)=false:=AB;rw[ι];have U:jQ m b (.mk k n i ts) l=.mk k n i (RI m b ts l):=by grind[jQ]
    have W:Bi m (.mk k n i ts)=Cz m ts:=by grind[Bi]
    rw[U,W,HF k n i _ ε];refine A4 (AM3 (Ag D rfl (Bh ?_)));simp only[Γ];have Θ:(e++[Z4])[F s.bs+3]?=Y Z4:=AB;refine Bn Θ rfl rfl AH (AO _) (by simp[o.ok]) (.inl (AO _)) ?_;have χ:((e++[Z4]).set (F s.bs+3) [AG k,SS n,AG i,a])[F s.bs+3]?=Y [AG k,SS n,AG i,a]:=BT Θ;refine AR (Ab χ) (C1 (off:=3) χ (AU 4) rfl (AO _) rfl (.inl (AO _)) ?_);have b8:((e++[Z4]).set (F s.bs+3) [AG k,SS n,AG i,a]).set (F s.bs+3) ([AG k,SS n,AG i,a].set 3 (.AE []))=e++[[AG k,SS n,AG i,.AE []]]:=AB
    show Ex ⟨((e++[Z4]).set (F s.bs+3) [AG k,SS n,AG i,a]).set (F s.bs+3) ([AG k,SS n,AG i,a].set 3 (.AE [])),s.ts⟩ _ _ _
    rw[b8];have q0:=Am D [AG k,SS n,AG i,.AE []];refine AR (Ab q0) (Ad q0 rfl (Au (n:=F ts) (by rw[o.BG,Ae,Bx,Bj]) ?_))
    exact zm (C:=C) X (yc:=O) o AA ε (k0:=l) AA σ M b0 ω α (λt hm k s M ν ξ=>dF hn ς X η ts AA K.2.2 t hm k s M ν ξ) (λγ p ν ξ=>⟨γ,p,rfl,ξ,ν,rfl⟩) (F ts) 0 l [] _ s.ts (.AE []) AA AD rfl AD AD σ
     (BM.app (s:=⟨e,s.ts⟩) θ AX) ((DL AA _).trans I) (Am μ _) (Am E _) AB (.inl rfl) (Cx.refl _ _) (Dt.AE _ _)
def dF (hn:Mm R) {N:Nat} (e:N<=2 ^ 40) {C:Nat} {f:FuncId} {cap:Ϭ} {m:Int->Bool} {Q:Ϩ->Prop} (i:RcF R C f cap m Q) {b:Ty} {y:AV} (j:BD (ren b) y):∀(ts:Ϣ),Ak ts<2 ^ 38->Gr N ts=Z->∀t∈ts,∀(k:Int) (s:AY),BM s->-(2 ^ 40)-2 ^ 38<=k-AP t->k<2 ^ 40->AGS R C f cap m Q b y (.agg ((Av (ren t)).map .pv)) t k s
 | [],_,_,_,h=>by cases h
 | u::l,h,d,t,hm=>by
  simp only[Ak] at h;simp only[Gr,AK] at d;rcases BF.1 hm with h' | h'
  .rw[h']
   exact Zh hn e i j u AA d.1 _ (BD.Bo _).Du
  .exact dF hn e i j l AA d.2 t h'
end
end
def yu (v:AV) (r:Option Ϣ):Prop:=match r with
 | none=>v=.tuple [.AE [],BB ϴ]
 | some l=>∃a,v=.tuple [a,BB Z]/\BN a (Aj (CO l))
abbrev Aa (Ar:Nat):Nat->Bool:=λn=>decide (Ar<n)
def D0 {α:Type} (ml Ar:Nat) (o:Option α):Prop:=Ar<2 ^ 20/\Ar<=ml/\ml<2 ^ 63/\(ml=Ar\/o.isSome=Z)
def D0.some {α β:Type} {ml Ar:Nat} {o:Option α} (h:D0 ml Ar o) (r:β):D0 ml Ar (Option.some r):=⟨h.1,h.2.1,h.2.2.1,.inr rfl⟩
def D0.none {α β:Type} {ml Ar:Nat} (h:D0 ml Ar (Option.none:Option α)) (r:Option β):D0 ml Ar r:=by
 have:ml=Ar:=by simpa using h.2.2.2
 exact⟨h.1,h.2.1,h.2.2.1,.inl this⟩
def D0.quo {α:Type} {ml Ar n k:Nat} {X:Option α} (h:D0 ml Ar (bif Aa Ar (n*k) then Option.none else X)) (d:0<k):decide ((n:Int)>((ml / k:Nat):Int))=Aa Ar (n*k):=by
 obtain⟨_,f,_,b⟩:=h
 have e:decide ((n:Int)>((ml / k:Nat):Int))=decide (ml<n*k):=by
  rw[PU];simp only[Cu,gt_iff_lt,Int.ofNat_lt]
  grind[Nat.div_lt_iff_lt_mul]
 rw[e];cases hb:Aa Ar (n*k) with
 | true=>
  rw[hb] at b;have:ml=Ar:=by simpa using b
  grind
 | false=>grind
def D0.AM4 {α:Type} {ml Ar n:Nat} {X:Option α} (h:D0 ml Ar (bif Aa Ar n then Option.none else X)):decide ((n:Int)>(ml:Nat))=Aa Ar n:=by
 have:=D0.quo (n:=n) (k:=1) (X:=X) (by simpa using h) AA;simpa using this
def D0.cmp {ml Ar n:Nat} {B:Ϣ} {X:FT} (h:D0 ml Ar (bif Aa Ar n then(Option.none,B) else X).1):decide ((n:Int)>(ml:Nat))=Aa Ar n:=by
 refine D0.AM4 (X:=X.1) ?_;cases hb:Aa Ar n <;> simpa[hb] using h
def FN {rr:Bool} {e Ar:Nat} {v d:AV} {r:Option Ϣ} {s0:AY} {bs:Ϩ} {ts:Ϫ} {Post:Ϡ} (o:BM s0) (i:bs.take (F s0.bs)=s0.bs.set e [d,AG Ar]) (t:A6 (F s0.bs) d=Z) (k:yu v r) (m:∀w,yu w r->Post w ⟨s0.bs.set e [d,AG Ar],ts⟩):QM rr (F s0.bs) Post v ⟨bs,ts⟩:=by
 have f:((bs.take (F s0.bs)).all (Ap (F s0.bs)))=true:=by
  have:=BM.set o (c:=[d,AG Ar]) (by grind[Ap,A6]) ts (j:=e);rw[Cl];intro b hb;have:=this b AB
  grind
 cases r with
 | none=>
  cases k;refine KF (ds:=[.AE [],BB ϴ]) f rfl ?_
  show Post _ ⟨bs.take _,ts⟩
  rw[i];exact m _ rfl
 | some l=>
  obtain⟨a,rfl,p⟩:=k;have⟨n,u,s⟩:=p.close bs (F s0.bs) (F ts);refine KF (ds:=[n,BB Z]) f (by simp[*]) ?_
  show Post _ ⟨bs.take _,ts⟩
  rw[i];exact m _ ⟨n,rfl,s⟩
def BX.cells {t:Ty} {y:Ϭ} (h:BX t (.agg y)):F y=4/\y.all BS=Z/\∀n,Ap n y=true:=by
 obtain⟨k,n,i,ts⟩:=t;obtain⟨a,d,b⟩:=h;cases d;exact⟨rfl,by simp[b.ok],λn=>by simp[Ap,A6,b.A6]⟩
theorem BX.agg {t:Ty} {x:AV} (h:BX t x):∃cs,x=.agg cs:=by
 obtain⟨k,n,i,ts⟩:=t;obtain⟨a,rfl,_⟩:=h;simp
mutual
theorem F8 (N:Nat):∀t:Ty,Ez N t=E4 (λi=>decide (0<=i)&&decide (i<N)) t
 | .mk k n i ts=>by rw[Ez,E4,dG N ts]
theorem dG (N:Nat):∀l:Ϣ,Gr N l=EZ (λi=>decide (0<=i)&&decide (i<N)) l
 | []=>rfl
 | t::l=>by rw[Gr,EZ,F8 N t,dG N l]
end
def FO {L:Ba} {s:AY} {a y:AV} {es l:Ϣ} {K:Ϡ} (i:D1 0 s.ts 25 a (Aj es)) (f:L.rt=0) (n:F es+F l<2 ^ 39) (j:BN y (Aj l)) (h:∀d b,D1 0 b 25 d (Aj (es++l))->Cx a d s.ts b->K d ⟨s.bs,b⟩) :
  I6 ϴ L s 25 4 56 a y K:=by
 have o:=Ae es;have p:=Ae l;refine RH (m:=Aj l) i f (λr e=>HV e) (λr e=>HV e) AA (D7 j λr e=>HV e) ?_ AA AA λd b t k=>h d b (by grind[Ff]) k
 grind[Iw,DG]
def dH {α:Type} {Ar:Nat} {g:α->Ϣ->FT}:∀(l:List α) (out B r:Ϣ),F out<=Ar->(Ce (Aa Ar) g l out B).1=Y r->F r<=Ar
 | [],out,B,r,b,h=>by grind[Ce]
 | a::l,out,B,r,b,h=>by
  rw[Ce] at h;rcases d:g a B with ⟨_|s,e⟩
  .grind
  .rw[d] at h
   simp only at h;cases hb:Aa Ar (F (out++s)) with
   | true=>grind
   | false=>
    rw[hb] at h;exact dH l (out++s) e r AB h
def RJ {Ar:Nat} {ex:Ϣ->FT} {v:Nat}:∀(f:Nat) (t:Ty) (B r:Ϣ),(CT (Aa Ar) ex v f t B).1=Y r->F r<=Ar+1
 | 0,t,B,r,h=>by grind[CT]
 | f+1,t,B,r,h=>by
  rw[CT] at h;cases b:DZ v ϴ t with
  | false=>grind
  | true=>
   rw[b] at h;simp only[AQ] at h;rcases d:ex B with ⟨_|cs,e⟩
   .grind
   .rw[d] at h
    have:=dH cs [] e r AD h;omega
section
variable {R:RT}
def V4 (R:RT) (e Ar f:Nat) (args:Ϭ) (o:FT) (B:Ϣ) (s:AY):Prop:=∀(L:Ba) (d:AV),L.ro=0->L.rt=0->s.bs[e]?=Y [d,AG Ar]->D1 0 s.ts 25 d (Aj B) ->
 ∃v j,(∃i b,yu v o.1/\D1 0 b 25 i (Aj o.2)/\Cx d i s.ts b/\j=⟨s.bs.set e [i,AG Ar],b⟩)/\Bk (env R) L f (.ptr e 0::args) s v j
end
mutual
theorem Eb:∀t:Ty,F (Af t)<=AP t
 | .mk k n i ts=>by
  have:=O7 ts
  grind[Af,AP]
theorem O7:∀l:Ϣ,F (B5 l)<=Ak l
 | []=>by simp[B5]
 | t::l=>by
  have:=Eb t;have:=O7 l
  grind[B5,Ak]
end
mutual
theorem dI (N:Nat):∀(t:Ty) (o:Ϟ),AP (Lc N t o).1<=AP t
 | .mk k n i ts,o=>by
  have:=Xg N ts o
  grind[Lc,AP,Ak]
theorem Xg (N:Nat):∀(l:Ϣ) (o:Ϟ),Ak (HL N l o).1<=Ak l
 | [],_=>by grind[HL]
 | t::l,o=>by
  have b:=dI N t o;have d:=Xg N l (Lc N t o).2
  grind[HL,Ak]
end
def dJ (B:Ϣ) (p:Ty):AP (Gc B p).AM<=AP p/\F (Gc B p).AN<=AP p:=by grind[dI,TE,Gc]
def Mp (b:Br):Bool:=decide (F b.AN<=6)&&decide (F (Af b.AM)<=3)
def C2 (o:Ϥ×Int):Bool:=o.2==0&&decide (F o.1<=4)
def xP:Nat->Ty->Ϥ×Int
 | 0,_=>([],2)
 | f+1,t=>bif !(DJ t==0)||!(CJ 0 t) then([],2) else match BI (Aa 32) (Al t) t [] with
  | (G,_)=>([],4)
  | (Y ps,B)=>bif (ps.map (Gc B)).all Mp&&(((ps.map (Gc B)).flatMap Br.AN).all λb=>C2 (xP f b)) then(ps.map (Gc B),0) else([],4)
def xR:Nat->Ty->Ϥ×Int
 | 0,_=>([],2)
 | f+1,t=>bif !(DJ t==0)||!(CJ 0 t) then([],2) else match DR (Aa 32) (Al t) t with
  | none=>([],4)
  | some l=>bif (l.map CE).all λb=>Mp b&&b.AN.all λb=>C2 (xR f b) then(l.map CE,0) else([],4)
theorem E6 {t:Ty} (h:DJ t=0):A2 t=Z/\AP t<=200/\Al t<=12:=by grind[DJ]
mutual
def Ev (P:Ty->Prop):Ty->Prop
 | .mk k _ _ ts=>(k=6->∀b d,ts=[b,d]->P b)/\(k=3\/k=4\/k=6->NT P ts)
def NT (P:Ty->Prop):Ϣ->Prop
 | []=>True
 | t::l=>Ev P t/\NT P l
end
def Xh {P:Ty->Prop}:∀{l:Ϣ} {t:Ty},NT P l->t∈l->Ev P t
 | a::l,t,h,ht=>by
  rw[NT] at h;rcases BF.1 ht with rfl|ht
  .grind
  .exact Xh h.2 ht
mutual
def Lj {P Q:Ty->Prop} (h:∀b,P b->Q b):∀t:Ty,Ev P t->Ev Q t
 | .mk k n i ts,d=>by
  rw[Ev] at d ⊢;exact⟨λj b f e=>h b (d.1 j b f e),λl=>Uq h ts (d.2 l)⟩
def Uq {P Q:Ty->Prop} (h:∀b,P b->Q b):∀l:Ϣ,NT P l->NT Q l
 | [],_=>trivial
 | t::l,d=>by
  rw[NT] at d ⊢;exact⟨Lj h t d.1,Uq h l d.2⟩
end
def G0 (P:Ty->Prop) (ex:Ϣ->FT):Prop:=∀B,(∀b∈B,P b)->∀b∈(ex B).2,P b
section
variable {A7:Nat->Bool} {P:Ty->Prop}
def N5 {α:Type} {g:α->Ϣ->FT} (b:∀a,G0 P (g a)):∀(l:List α) (out:Ϣ),G0 P (Ce A7 g l out)
 | [],out,B,h=>h
 | a::l,out,B,h=>by
  have d:=b a B h;rw[Ce];rcases e:g a B with ⟨_|r,f⟩
  .grind
  .rw[e] at d
   simp only;cases A7 (F (out++r)) with
   | true=>grind
   | false=>exact N5 b l _ f d
def Ur {ex:Ϣ->FT} (hx:G0 P ex) (v:Nat):∀(f:Nat) (t:Ty),G0 P (CT A7 ex v f t)
 | 0,_,B,h=>h
 | f+1,t,B,h=>by
  have b:=hx B h;rw[CT];cases DZ v ϴ t with
  | false=>exact h
  | true=>
   simp only[AQ];rcases d:ex B with ⟨_|r,e⟩
   .grind
   .rw[d] at b
    exact N5 (λc=>Ur hx v f _) r [] e b
def Us {ex:Ϣ->FT} (hx:G0 P ex) (v:Nat) (t:Ty):G0 P (Bw A7 ex v t):=by
 intro B h;rw[Bw];cases DZ v Z t with
 | true=>exact h
 | false=>exact Ur hx v _ t B h
def RK {ex:Ty->Ϣ->FT}:∀(l out:Ϣ) (ok:Bool),(∀t∈l,G0 P (ex t))->∀B,(∀b∈B,P b)->∀b∈(G1 ex l out ok B).2,P b
 | [],_,_,_,_,h=>h
 | t::l,out,ok,hx,B,h=>by
  have d:=hx t AD B h;rw[G1];rcases e:ex t B with ⟨_|r,f⟩
  .rw[e] at d
   exact RK l out ϴ (λa i=>hx a AB) f d
  .rw[e] at d
   exact RK l _ ok (λa i=>hx a AB) f d
def Xi {ex:Ty->Ϣ->FT}:∀(l:Ϣ) (out:List Ϣ),(∀t∈l,G0 P (ex t))->∀B,(∀b∈B,P b)->∀b∈(Ey ex l out B).2,P b
 | [],_,_,_,h=>h
 | t::l,out,hx,B,h=>by
  have d:=hx t AD B h;rw[Ey];rcases e:ex t B with ⟨_|r,f⟩
  .grind
  .rw[e] at d
   exact Xi l _ (λa i=>hx a AB) f d
def Ll:∀(f:Nat) (t:Ty) (σ:Ϟ),A2 t=Z->CJ (F σ) t=Z->Ev P t->G0 P (BI A7 f (inst σ 0 t))
 | 0,_,_,_,_,_=>λB h=>h
 | f+1,.mk k n i ts,σ,e,E,j=>by
  intro B h;have r:=λt σ=>Ll f t σ
  have L:=e;simp only[A2,AK] at e;rw[Ev] at j
  have x:∀(H:k≠6) (y:k≠5),(k=3\/k=4\/k=6)->∀t∈ts.map (inst σ 0),G0 P (BI A7 f t):=by
   intro H y z t O;obtain⟨Q,m,rfl⟩:=Cw.1 O;exact r Q σ (CB e.2 m) (FJ H (Dq E y) m) (Xh (j.2 z) m)
  rcases EO σ 0 L with ⟨rfl,rfl,rfl,_,_,⟨v,s,h3⟩|h3⟩|⟨β,h3⟩
  .grind[BI]
  .grind[BI]
  .rw[h3,BI]
   cases U:k==0||k==2||k==7 with
   | true=>exact h
   | false=>
    simp only[AL];cases γ:k==4 with
    | true=>
     have:k=4:=AB;subst this;simp only[AQ];rw[FI (k:=4) AH];have:=RK (ts.map (inst σ 0)) [] Z (x AH AH AD) B h;omega
    | false=>
     simp only[AL];cases z:k==3 with
     | true=>
      have:k=3:=AB;subst this;simp only[AQ];rw[FI (k:=3) AH];have:=Xi (ts.map (inst σ 0)) [] (x AH AH AD) B h;generalize Ey (BI A7 f) (ts.map (inst σ 0)) [] B=o at this ⊢;rcases o with ⟨_|ls,I⟩
      .omega
      .simp only
       cases ls.any List.isEmpty with
       | true=>grind
       | false=>
        grind
     | false=>
      simp only[AL];cases W:k==6 with
      | false=>exact h
      | true=>
       have:k=6:=AB;subst this;rcases JN e.1 with h' | h' | h' | h' | h' | h' | ⟨_,rfl,rfl,b,d,rfl,A⟩
       iterate 6 exact absurd h' AD
       have X:=j.1 rfl b d rfl;have p:=j.2 AD;rw[NT,NT] at p;simp only[BO,AK] at e;obtain⟨_,C,D,_⟩:=e;have S:inst σ (0+Dz 6 0) b=b:=Ig σ b 0 C A
       have α:CJ (1+F σ) d=true:=by
        have:=Dq E AH;simp only[De,AK] at this;have s:=this.2.1;rw[Nt];exact s
       have K:sub (F B) 0 (inst σ 1 d)=inst (F B::σ) 0 d:=J9 (F B) σ d 0 D AA
       have M:G0 P (BI A7 f b):=by
        have:=r b [] C A p.1
        grind[Ck]
       have N:=r d (F B::σ) D AB p.2.1;simp only[AQ,Dg,S,ah];have T:inst σ (0+Dz 6 (0+1)) d=inst σ 1 d:=rfl;rw[T,K];have u:=N (B++[b]) AB;generalize BI A7 f (inst (F B::σ) 0 d) (B++[b])=o at u ⊢;rcases o with ⟨_|l,I⟩
       .omega
       .simp only at u ⊢
        have s:=N5 (A7:=A7) (g:=Bw A7 (BI A7 f b) (F B)) (λa=>Us M (F B) a) l [] I u
        grind
end
section
variable {R:RT}
def zn (hn:Mm R) {e ml Ar v M S f:Nat} {B0:Ϣ} {q:Int->Bool} (hq:∀i,q i=Z->0<=i/\i<2 ^ 40) (AM5:Ar<2 ^ 20) (hS:S<2 ^ 37) {ex:Ϣ->FT} (Ξ:∀B,B<+:(ex B).2)
  {t:Ty} (htq:E4 q t=Z) (b4:0<Bi (·==(v:Int)) t) (htS:AP t<=S) {O:Ϭ} (hx:BX (ren t) (.agg O)) {cs:Ϣ} (af:F cs<=Ar) {a:AV} (ha:BN a (Aj (CO cs)))
  (ih:∀c∈cs,∀(B:Ϣ),B0<+:B->F (CT (Aa Ar) ex v f (JM (·==(v:Int)) c t 0) B).2<=M->D0 ml Ar (CT (Aa Ar) ex v f (JM (·==(v:Int)) c t 0) B).1->∀x,BX (ren (JM (·==(v:Int)) c t 0)) x->∀s,BM s->V4 R e ml 114 [x,AG v] (CT (Aa Ar) ex v f (JM (·==(v:Int)) c t 0) B) B s)
  {s0:AY} (γ:BM s0) (he:e<F s0.bs) {a4:AV} {o:FT} (hoM:F o.2<=M) (hF:D0 ml Ar o.1) {rr:Bool} {Post:Ϡ}
  (ο:∀w π δ,yu w o.1->D1 0 δ 25 π (Aj o.2)->Cx a4 π s0.ts δ->Post w ⟨s0.bs.set e [π,AG ml],δ⟩) :
  ∀(j p:Nat) (out y:Ϣ) (bs:Ϩ) (tk:Ϫ) (d acc:AV),p+j=F cs->Ce (Aa Ar) (λc B=>CT (Aa Ar) ex v f (JM (·==(v:Int)) c t 0) B) (cs.drop p) out y=o->B0<+:y->F out<=Ar ->
   BM ⟨bs,tk⟩->bs.take (F s0.bs)=s0.bs.set e [d,AG ml]->bs[F s0.bs]?=Y O->bs[F s0.bs+1]?=Y [AG v] ->
   D1 0 tk 25 d (Aj y)->D1 0 tk 25 acc (Aj (CO out))->Cx a4 d s0.ts tk->Dt acc s0.ts->SZ d acc ->
   uH R 0 0 0 (.ptr e 0) (.ptr (F s0.bs) 0) (.ptr (F s0.bs+1) 0) acc a (AG (F cs)) (AG p) ⟨bs,tk⟩ (QM rr (F s0.bs) Post):=by
 have⟨b7,hxo,hxi⟩:=hx.cells;intro j
 induction j with
 | zero=>
  intro p out y bs tk d acc hi k ε b5 a5 ρ a6 ς Q X ζ L α;refine uI (Ao ?_);rw[A5 AA];rw[CR AA,Ce] at k;subst k;exact A4 (AGT (FN γ ρ (Q.BA.A6 _) (r:=Y out) ⟨acc,rfl,X.BA⟩ λw I=>ο w d tk I Q ζ))
 | succ j b8=>
  intro p out y bs tk d acc hi k ε b5 a5 ρ a6 ς Q X ζ L α;refine uI (Ao ?_);rw[Ax AA];have⟨c,a7⟩:∃c,cs[p]?=Y c:=⟨_,Az AA⟩;have hrc:(CO cs)[p]?=Y (ren c):=by grind[Bx]
  have b9:=A8 a7;have η:F ((Av (ren c)).map AV.pv)=4:=by grind[Aq]
  have Φ:=DG (ren c)
  have Ψ:Ap (F bs+1) ((Av (ren c)).map AV.pv)=true:=by
   have⟨k1,n1,i1,t1⟩:=ren c;rfl
  have ω:=BD.Bo (ren c);refine BH (AGU (Bc ha (row:=Av (ren c)) AA (by grind[BK]) (Aq _) AA (Cd (Bh ?_))));have hdr:cs.drop p=c::cs.drop (p+1):=drop_cons a7;rw[hdr,Ce] at k;generalize (Av (ren c)).map AV.pv=m at η Φ Ψ ω;refine Bn (A0 bs Z4) η rfl AH (AO _) Φ (.inl (AO _)) ?_;have e1:(bs++[Z4]).set (F bs) m=bs++[m]:=AD;rw[e1];have l1:=(BJ.1 ς).1;have hnl:F s0.bs<=F bs:=AA;refine Bh ?_;have ebl:F (bs++[m])=F bs+1:=AD;have σ:(bs++[m]++[[AG 0]])[F bs+1]?=Y [AG 0]:=AD;simp only[ebl];refine C1 σ AH rfl (AO _) rfl (.inl (AO _)) ?_;have e2:(bs++[m]++[[AG 0]]).set (F bs+1) ([AG 0].set 0 (AG 0))=bs++[m]++[[AG 0]]:=AD
  show EX _ ⟨(bs++[m]++[[AG 0]]).set (F bs+1) ([AG 0].set 0 (AG 0)),tk⟩ _ _ _
  rw[e2];have hs1:BM ⟨bs++[m],tk⟩:=BM.app (s:=⟨bs,tk⟩) a5 Ψ;have θ:BM ⟨bs++[m]++[[AG 0]],tk⟩:=BM.app (s:=⟨bs++[m],tk⟩) hs1 rfl;have τ:=Am (Am a6 m) [AG 0];have K:=Am (Am ς m) [AG 0];have a8:=Am (A0 bs m) [AG 0];have Ω:=(DL (n:=F s0.bs) AA [AG 0]).trans ((DL hnl m).trans ρ);generalize hB2:bs++[m]++[[AG 0]]=z at σ θ τ K a8 Ω;have lb2:F z=F bs+2:=AB;refine Ag τ b7 (Ag a8 η ?_);obtain⟨w1,s1',⟨ι,ds,rfl,a9,υ,rfl⟩,r3⟩:=Zh hn (N:=2 ^ 40) (AU _) (C:=F bs+1) (AGR (V:=F s0.bs+1) AA v) (b:=c) ω t AA (by grind[F8,Ea]) (.agg O) hx 0 ⟨z,tk⟩ θ AA AA (Co (env R) 114 0 0 0) rfl rfl σ K;have ez:jQ (·==(v:Int)) c t 0=JM (·==(v:Int)) c t 0:=jR (·==(v:Int)) c t 0 b4;rw[ez] at a9;have κ:BM ⟨z.set (F bs+1) [AG (0-Bi (·==(v:Int)) t)],ι⟩:=BM.set (s:=⟨z,tk⟩) θ rfl _;have a0:(z.set (F bs+1) [AG (0-Bi (·==(v:Int)) t)]).take (F s0.bs)=s0.bs.set e [d,AG ml]:=(Cf AA).trans Ω;have k0:(z.set (F bs+1) [AG (0-Bi (·==(v:Int)) t)])[F s0.bs]?=Y O:=BR τ AA;have k1:(z.set (F bs+1) [AG (0-Bi (·==(v:Int)) t)])[F s0.bs+1]?=Y [AG v]:=BR K AA;have gE:(s0.bs.set e [d,AG ml])[e]?=Y [d,AG ml]:=by rw[Cv he]
  refine⟨_,_,r3,Ad k1 rfl ?_⟩;have lb3:F (z.set (F bs+1) [AG (0-Bi (·==(v:Int)) t)])=F bs+2:=by rw[Ns,lb2]
  generalize z.set (F bs+1) [AG (0-Bi (·==(v:Int)) t)]=D at κ a0 k0 k1 lb3;have hdk:=υ.keep Q (λ_ h=>by cases h);have χ:=υ.keep X (λ_ h=>by cases h);have Γ:=ζ.side υ (Dt.AE _ _);have μ:=ih c b9 y ε;have β:=IQ (A7:=Aa Ar) Ξ v f (JM (·==(v:Int)) c t 0) y;have ν:=RJ (Ar:=Ar) (ex:=ex) (v:=v) f (JM (·==(v:Int)) c t 0) y;have hfp:∀(l:Ϣ) out B,B<+:(Ce (Aa Ar) (λc B=>CT (Aa Ar) ex v f (JM (·==(v:Int)) c t 0) B) l out B).2:=λl out B=>G6 (λc B=>IQ Ξ v f _ B) l out B
  rcases hg:CT (Aa Ar) ex v f (JM (·==(v:Int)) c t 0) y with ⟨r,b0⟩
  rw[hg] at μ β ν k;simp only at μ β ν k
  have b6:F b0<=M:=by
   cases r with
   | none=>grind
   | some r=>
    simp only at k;cases hb:Aa Ar (F (out++r)) with
    | true=>grind
    | false=>
     grind
  have hFc:D0 ml Ar r:=by
   cases r with
   | none=>
    rw[<-k] at hF;exact hF
   | some r=>exact hF.some _
  obtain⟨w2,s2',⟨u,ts2,q1,E,T,rfl⟩,b1⟩:=μ b6 hFc (.agg ds) a9 ⟨D,ι⟩ κ (Co (env R) 114 0 0 0) d rfl rfl (CN a0 gE) hdk;have ξ:(D.set e [u,AG ml]).take (F s0.bs)=s0.bs.set e [u,AG ml]:=by simp[*,Ep]
  have φ:(D.set e [u,AG ml])[e]?=Y [u,AG ml]:=by rw[Cv AA]
  have U:SZ u acc:=α.QG T χ;have ψ:=T.keep χ α;have Δ:=Γ.trans T;have a1:Tel.D9 (AG v) (AG v)=true:=by simp[Tel.D9,OH,F7]
  cases r with
  | none=>
   cases q1;simp only at k;subst k;refine⟨_,_,b1,B9 rfl (B9 rfl ⟨Ad K rfl a1,AH,FO (l:=[]) ψ rfl (by rw[Bx,Bj]; grind) (.inl (.AE _)) λΘ H _ A=>?_⟩)⟩;exact nt (C8 (C8 (C8 (C8 (C8 (C8 (C8 (pk (BH (FN γ ξ (E.BA.A6 _) (r:=G) rfl λw I=>ο w u H I (A.keep E U.symm) (Δ.side A L)))))))))))
  | some r=>
   obtain⟨a2,rfl,ha2⟩:=q1;have AWi:=ν r rfl;refine⟨_,_,b1,B9 rfl (B9 rfl ⟨Ad K rfl a1,AH,FO ψ rfl (by rw[Bx,Bx,Bj,Bj]; omega) ha2 λΘ H W A=>?_⟩)⟩;have er:CO out++CO r=CO (out++r):=by simp[Bx]
   rw[er] at W;have a3:=A.keep E U.symm;have Λ:=Δ.side A L;refine nt (Aw (b:=ϴ) (Aw (b:=ϴ) (Au (n:=F (out++r)) (by rw[W.BA.BG,Ae,Bx,Bj]) (Aw (b:=ϴ) (Aw (b:=ϴ) (DK (Ab φ) (Aw (b:=ϴ) (AR (Ab φ) (Aw (b:=ϴ) (Ad (off:=1) φ rfl (Aw (b:=ϴ) (Gv (pk ?_)))))))))))));simp only at k;have eb:decide ((F (out++r):Int)>(ml:Nat))=Aa Ar (F (out++r)):=D0.cmp (by rw[k]; exact hF);rw[eb];cases hb:Aa Ar (F (out++r)) with
   | true=>
    rw[hb] at k;simp only[AQ] at k;subst k;exact BH (FN γ ξ (E.BA.A6 _) (r:=G) rfl λw I=>ο w u H I a3 Λ)
   | false=>
    rw[hb] at k;simp only[AL] at k;refine A4 (AGV (Bb AA AA ?_));have hs4:BM ⟨D.set e [u,AG ml],H⟩:=BM.set (s:=⟨D,ι⟩) κ (by simp[Ap,A6,E.BA.A6]) _;have fin:=b8 (p+1) (out++r) b0 (D.set e [u,AG ml]) H u Θ AA k (ε.trans β) AB hs4 ξ (BR k0 AA) (BR k1 AA) a3 W Λ (L.QG A (BC Γ.1 T.1)) (U.symm.QG A E).symm
    grind
end
structure ExB (Ar v M W:Nat) (B0:Ϣ) (q:Int->Bool) (ex:Ϣ->FT):Prop where
 pre:∀B,B<+:(ex B).2
 res:∀B r,B0<+:B->(ex B).1=Y r->F (ex B).2<=M->F r<=Ar/\∀c∈r,E4 q c=Z/\(∀inv,DZ v inv c=ϴ)/\Bi (·==(v:Int)) c=0/\AP c<=W/\pat c=Z
section
variable {R:RT}
def pH (R:RT) (e ml Ar v M W S:Nat) (B0:Ϣ) (q:Int->Bool) (ex:Ϣ->FT) (f:Nat):Prop:=∀(t:Ty),E4 q t=Z->pat t=Z->DZ v Z t=ϴ->Bi (·==(v:Int)) t<=f->AP t+Bi (·==(v:Int)) t*W<=S->∀(B:Ϣ),B0<+:B->F (CT (Aa Ar) ex v f t B).2<=M->D0 ml Ar (CT (Aa Ar) ex v f t B).1 ->
 ∀x,BX (ren t) x->∀s,BM s->V4 R e ml 114 [x,AG v] (CT (Aa Ar) ex v f t B) B s
def mH (hn:Mm R) {e ml Ar v M W S:Nat} {B0:Ϣ} {q:Int->Bool} (Ω:∀i,q i=Z->0<=i/\i<2 ^ 40) (ρ:Ar<2 ^ 20) (hS:S<2 ^ 37) {ex:Ϣ->FT} {b:Ty} (hx:ExB Ar v M W B0 q ex) (a0:B0[v]?=Y b)
  (ς:∀(B:Ϣ) (s:AY),BM s->B0<+:B->F (ex B).2<=M->D0 ml Ar (ex B).1->V4 R e ml 44 [.agg ((Av b).map .pv)] (ex B) B s)
  {f:Nat} (b4:f=0\/∃u,f=u+1/\pH R e ml Ar v M W S B0 q ex u):pH R e ml Ar v M W S B0 q ex f:=by
 intro t ι κ δ hf b5 B z m hF x p s A L d σ τ a1 C;obtain⟨k,rfl⟩:=p.agg;have⟨ε,υ,b6⟩:=p.cells;have le:=(BJ.1 a1).1;have b3:s.bs.set e [d,AG ml]=s.bs:=by grind[List.set_getElem_self]
 refine AWj AX ?_;rw[σ,τ];have D:(s.bs++[k,[AG v]])[F s.bs]?=Y k:=E5 (j:=0) rfl rfl;have E:(s.bs++[k,[AG v]])[F s.bs+1]?=Y [AG v]:=E5 rfl rfl;have X:(s.bs++[k,[AG v]]).take (F s.bs)=s.bs.set e [d,AG ml]:=AB
 have T:BM ⟨s.bs++[k,[AG v]],s.ts⟩:=by
  intro c o;simp only[CU,BF,ER,ES] at o
  show Ap (F (s.bs++_)) c=Z
  rcases o with o|rfl|rfl
  .exact BV AD c (A c o)
  .grind
  rfl
 refine AGW (Bs (cs:=k) rfl υ (Bs (cs:=[AG v]) rfl rfl ?_));simp only[EG,DV,Ct,B6,CP,CQ,CY];generalize s.bs++[k,[AG v]]=H at D E X T;have φ:Ez (2 ^ 40) t=true:=by grind[F8,Ea]
 have I:H[e]?=Y [d,AG ml]:=CN X (by rw[Cv le]);refine Ag D ε (Ad E rfl (AI (QH hn (AU _) v t ϴ AA φ p) ?_));rintro _ rfl;have γ:=Za t κ δ;rw[γ]
 by_cases y:0<Bi (·==(v:Int)) t
 .obtain⟨f,rfl,χ⟩:∃u,f=u+1/\pH R e ml Ar v M W S B0 q ex u:=by grind
  rw[CT,γ,Ax y] at m hF ⊢;simp only[AQ] at m hF ⊢;have b7:B[v]?=Y b:=Ih z a0;refine nt (A4 (AGX (DK (Ab I) (AR (Ab I) (Ad (off:=0) I rfl (Ad E rfl (Bc C.BA (row:=Av b) AA (by grind[BK]) (Aq _) AA (Cd ?_))))))));have O:=ς B ⟨H,s.ts⟩ T z;have U:=hx.res B;have Q:=hx.pre B;have b8:∀(l:Ϣ) B,B<+:(Ce (Aa Ar) (λc B=>CT (Aa Ar) ex v f (JM (·==(v:Int)) c t 0) B) l [] B).2:=λl B=>G6 (λc B=>IQ hx.pre v f _ B) l [] B
  rcases a2:ex B with ⟨r,μ⟩
  rw[a2] at m hF O U Q;simp only at m hF O U Q;have ζ:F μ<=M:=AB
  have ψ:D0 ml Ar r:=by
   cases r with
   | none=>exact hF
   | some r=>exact hF.some _
  obtain⟨w,ν,⟨K,η,q1,N,ξ,rfl⟩,ο⟩:=O ζ ψ (Co (env R) 114 0 0 0) d rfl rfl I C;have θ:(H.set e [K,AG ml]).take (F s.bs)=s.bs.set e [K,AG ml]:=by grind[Ep]
  cases r with
  | none=>
   cases q1;exact⟨_,_,ο,B9 rfl (B9 rfl (nt (BH (FN A θ (N.BA.A6 _) (r:=G) rfl λw α=>⟨K,η,α,N,ξ,rfl⟩))))⟩
  | some β=>
   obtain⟨a,rfl,π⟩:=q1;have⟨ω,Γ⟩:=U β z rfl ζ;refine⟨_,_,ο,B9 rfl (B9 rfl (nt (A4 (AGY (Au (n:=F β) (by rw[π.BG,Ae,Bx,Bj]) ?_)))))⟩;simp only at m hF ⊢
   refine zn hn (M:=M) (S:=S) (f:=f) (B0:=B0) Ω ρ hS hx.pre ι y AA p ω π ?_ A le m hF (λw a3 Δ a4 a5 a6=>⟨a3,Δ,a4,a5,a6,rfl⟩) (F β) 0 [] μ _ η K (.AE []) AA rfl (z.trans Q) (AO _)
    (BM.set (s:=⟨H,s.ts⟩) T (by simp[Ap,A6,N.BA.A6]) _) θ (BR D AA) (BR E AA) N (.inl rfl) ξ (Dt.AE _ _) (SZ.AE _ _)
   intro c o a7 Θ Λ Ξ a8 Φ ν Ψ;have⟨a9,b0,b9,c4,b1⟩:=Γ c o;have⟨r1,r2⟩:=N3 (b:=c) t 0 y;have:Bi (·==(v:Int)) t*W=Bi (·==(v:Int)) (JM (·==(v:Int)) c t 0)*W+W:=AB;exact χ _ (NI a9 t 0 ι) (TB b1 t 0 κ) (Zb (b0 Z) t 0 δ) AA AA a7 Θ Λ Ξ a8 Φ ν Ψ
 .have b2:CT (Aa Ar) ex v f t B=(Y [t],B):=by grind[CT]
  rw[b2,A5 y];refine nt (BH (Ag D ε (Eg p ?_)));exact FN A X (C.BA.A6 _) (r:=Y [t]) ⟨.AE [Av (ren t)],rfl,.inl (by grind[CO,Aj,A3.AE])⟩ λw α=>⟨d,s.ts,α,C,Cx.refl _ _,rfl⟩
def Zi (hn:Mm R) {e ml Ar v M W S:Nat} {B0:Ϣ} {q:Int->Bool} (k:∀i,q i=Z->0<=i/\i<2 ^ 40) (d:Ar<2 ^ 20) (hS:S<2 ^ 37) {ex:Ϣ->FT} {b:Ty} (hx:ExB Ar v M W B0 q ex) (l:B0[v]?=Y b)
  (j:∀(B:Ϣ) (s:AY),BM s->B0<+:B->F (ex B).2<=M->D0 ml Ar (ex B).1->V4 R e ml 44 [.agg ((Av b).map .pv)] (ex B) B s):∀f,pH R e ml Ar v M W S B0 q ex f
 | 0=>mH hn k d hS hx l j (.inl rfl)
 | f+1=>mH hn k d hS hx l j (.inr ⟨f,rfl,Zi hn k d hS hx l j f⟩)
end
section
variable {R:RT}
def zo (hn:Mm R) {e ml Ar v M W S:Nat} {B0:Ϣ} {q:Int->Bool} (hq:∀i,q i=Z->0<=i/\i<2 ^ 40) (AM5:Ar<2 ^ 20) (hS:S<2 ^ 37) {ex:Ϣ->FT} (Ξ:∀B,B<+:(ex B).2) {cs:Ϣ} (af:F cs<=Ar) {a:AV} (ha:BN a (Aj (CO cs)))
  (b4:∀t∈cs,E4 q t=Z/\pat t=Z/\AP t+Bi (·==(v:Int)) t*W<=S) (ih:∀f,pH R e ml Ar v M W S B0 q ex f)
  {s0:AY} (ι:BM s0) (a4:e<F s0.bs) {ο:AV} {o:FT} (hoM:F o.2<=M) (hF:D0 ml Ar o.1) {rr:Bool} {Post:Ϡ}
  (π:∀w ρ κ,yu w o.1->D1 0 κ 25 ρ (Aj o.2)->Cx ο ρ s0.ts κ->Post w ⟨s0.bs.set e [ρ,AG ml],κ⟩) :
  ∀(j p:Nat) (out m:Ϣ) (bs:Ϩ) (tk:Ϫ) (d acc:AV),p+j=F cs->Ce (Aa Ar) (Bw (Aa Ar) ex v) (cs.drop p) out m=o->B0<+:m->F out<=Ar ->
   BM ⟨bs,tk⟩->bs.take (F s0.bs)=s0.bs.set e [d,AG ml]->F s0.bs<=F bs ->
   D1 0 tk 25 d (Aj m)->D1 0 tk 25 acc (Aj (CO out))->Cx ο d s0.ts tk->Dt acc s0.ts->SZ d acc ->
   ACB R 0 0 0 (.ptr e 0) (AG v) acc a (AG (F cs)) (AG p) ⟨bs,tk⟩ (QM rr (F s0.bs) Post):=by
 intro j
 induction j with
 | zero=>
  intro p out m bs tk d acc hi k Q a9 a5 ς Φ K D T U N;refine ACC (Ao ?_);rw[A5 AA];rw[CR AA,Ce] at k;subst k;exact A4 (AM8 (FN ι ς (K.BA.A6 _) (r:=Y out) ⟨acc,rfl,D.BA⟩ λw L=>π w d tk L K T))
 | succ j b5=>
  intro p out m bs tk d acc hi k Q a9 a5 ς Φ K D T U N;refine ACC (Ao ?_);rw[Ax AA];have⟨c,a6⟩:∃c,cs[p]?=Y c:=⟨_,Az AA⟩;have hrc:(CO cs)[p]?=Y (ren c):=by grind[Bx]
  have⟨c1,c2,c3⟩:=b4 c (A8 a6);have E:F ((Av (ren c)).map AV.pv)=4:=by grind[Aq]
  have Ψ:=DG (ren c)
  have Ω:Ap (F bs+1) ((Av (ren c)).map AV.pv)=true:=by
   have⟨k1,n1,i1,t1⟩:=ren c;rfl
  have O:=(BD.Bo (ren c)).Du;refine BH (AM9 (Bc ha (row:=Av (ren c)) AA (by grind[BK]) (Aq _) AA (Cd (Bh ?_))));have b6:cs.drop p=c::cs.drop (p+1):=drop_cons a6;rw[b6,Ce] at k;have b7:Ez (2 ^ 40) c=true:=by grind[F8,Ea]
  generalize (Av (ren c)).map AV.pv=y at E Ψ Ω O;refine Bn (A0 bs Z4) E rfl AH (AO _) Ψ (.inl (AO _)) ?_;have e1:(bs++[Z4]).set (F bs) y=bs++[y]:=AD;rw[e1];have X:BM ⟨bs++[y],tk⟩:=BM.app (s:=⟨bs,tk⟩) a5 Ω;have γ:=A0 bs y;have μ:=(DL Φ y).trans ς;have lb:F (bs++[y])=F bs+1:=AD;generalize bs++[y]=δ at X γ μ lb;have gE:(s0.bs.set e [d,AG ml])[e]?=Y [d,AG ml]:=by rw[Cv a4]
  have hfp:∀(l:Ϣ) out B,B<+:(Ce (Aa Ar) (Bw (Aa Ar) ex v) l out B).2:=λl out B=>G6 (λc B=>HU Ξ v c B) l out B
  have ν:∀(r:Option Ϣ) (x:Ϣ) (C:Ϩ) (z:Ϫ) (u σ τ:AV),(match r with
     | none=>((G,x):FT)
     | some r=>bif Aa Ar (F (out++r)) then(G,x) else Ce (Aa Ar) (Bw (Aa Ar) ex v) (cs.drop (p+1)) (out++r) x)=o->B0<+:x->(∀l,r=Y l->F l<=Ar+1)->yu (.tuple [σ,τ]) r ->
    BM ⟨C,z⟩->C.take (F s0.bs)=s0.bs.set e [u,AG ml]->F s0.bs<=F C->D1 0 z 25 u (Aj x)->D1 0 z 25 acc (Aj (CO out))->Cx ο u s0.ts z->SZ u acc ->
    ACD R 0 0 0 (.ptr e 0) (AG v) acc σ τ a (AG (F cs)) (AG p) ⟨C,z⟩ (QM rr (F s0.bs) Post):=by
   intro r x C z u σ τ k b8 H Δ b9 α hn2 I Γ η ε;have υ:C[e]?=Y [u,AG ml]:=CN α (by rw[Cv a4]);cases r with
   | none=>
    cases Δ;simp only at k;subst k;refine ACE ⟨AH,FO (l:=[]) Γ rfl (by grind[Bx]) (.inl (.AE _)) λΘ β _ A=>?_⟩;exact nt (C8 (C8 (C8 (C8 (C8 (C8 (C8 (pk (BH (FN ι α (I.BA.A6 _) (r:=G) rfl λw L=>π w u β L (A.keep I ε.symm) (η.side A U)))))))))))
   | some r=>
    obtain⟨a3,hae,ha3⟩:=Δ;cases hae;have AWi:=H r rfl;refine ACE ⟨AH,FO Γ rfl (by grind[Bx]) ha3 λΘ β ζ A=>?_⟩;have er:CO out++CO r=CO (out++r):=by simp[Bx]
    rw[er] at ζ;have a0:=A.keep I ε.symm;have Λ:=η.side A U;refine nt (Aw (b:=ϴ) (Aw (b:=ϴ) (Au (n:=F (out++r)) (by rw[ζ.BA.BG,Ae,Bx,Bj]) (Aw (b:=ϴ) (Aw (b:=ϴ) (DK (Ab υ) (Aw (b:=ϴ) (AR (Ab υ) (Aw (b:=ϴ) (Ad (off:=1) υ rfl (Aw (b:=ϴ) (Gv (pk ?_)))))))))))));simp only at k;have eb:decide ((F (out++r):Int)>(ml:Nat))=Aa Ar (F (out++r)):=D0.cmp (by rw[k]; exact hF);rw[eb];cases hb:Aa Ar (F (out++r)) with
    | true=>
     rw[hb] at k;simp only[AQ] at k;subst k;exact BH (FN ι α (I.BA.A6 _) (r:=G) rfl λw L=>π w u β L a0 Λ)
    | false=>
     rw[hb] at k;simp only[AL] at k;refine A4 (ANB (Bb AA AA ?_));have ν:=b5 (p+1) (out++r) x C β u Θ AA k b8 AB b9 α hn2 a0 ζ Λ (U.QG A η.1) (ε.symm.QG A I).symm
     grind
  have b0:=QH (R:=R) hn (AU _) v c Z AA b7 O;refine Ag γ E (Eg O (Ag γ E (AI b0 ?_)));rintro _ rfl;refine nt ?_;cases ho:DZ v Z c with
  | true=>
   have φ:Bw (Aa Ar) ex v c m=(Y [c],m):=by grind[Bw]
   rw[φ] at k;refine A4 (ν (Y [c]) m δ tk d (.AE [Av (ren c)]) (BB Z) k Q (λl a7=>by grind) ⟨_,rfl,.inl (by grind[CO,Aj,A3.AE])⟩ X μ AA K D T N)
  | false=>
   have φ:Bw (Aa Ar) ex v c m=CT (Aa Ar) ex v (Bi (·==(v:Int)) c) c m:=by grind[Bw]
   rw[φ] at k;have H:=RJ (Ar:=Ar) (ex:=ex) (v:=v) (Bi (·==(v:Int)) c) c m;have θ:=IQ (A7:=Aa Ar) Ξ v (Bi (·==(v:Int)) c) c m;have ξ:=ih (Bi (·==(v:Int)) c) c c1 c2 ho (AU _) c3 m Q;rcases hg:CT (Aa Ar) ex v (Bi (·==(v:Int)) c) c m with ⟨r,x⟩
   rw[hg] at ξ θ H k;simp only at ξ θ H;have b3:F x<=M:=AB
   have hFc:D0 ml Ar r:=by
    cases r with
    | none=>
     rw[<-k] at hF;exact hF
    | some r=>exact hF.some _
   obtain⟨w2,s2',⟨u,z,q1,a8,χ,rfl⟩,q4⟩:=ξ b3 hFc (.agg y) O ⟨δ,tk⟩ X (Co (env R) 81 0 0 0) d rfl rfl (CN μ gE) K
   obtain⟨ψ,ω,rfl⟩:∃ψ ω,w2=.tuple [ψ,ω]:=by
    cases r with
    | none=>exact⟨_,_,q1⟩
    | some r=>exact⟨_,_,q1.choose_spec.1⟩
   refine BH (Ag γ E ⟨_,_,q4,B9 rfl (B9 rfl ?_)⟩);exact ν r x (δ.set e [u,AG ml]) z u ψ ω (by cases r <;> omega) (Q.trans θ) (λl a7=>H l a7) q1 (BM.set (s:=⟨δ,tk⟩) X (by simp[Ap,A6,a8.BA.A6]) _) (by simp[*,Ep]) AB a8 (χ.keep D N) (T.trans χ) (N.QG χ D)
def mI (hn:Mm R) {e ml Ar v M W S:Nat} {B0:Ϣ} {q:Int->Bool} (u:∀i,q i=Z->0<=i/\i<2 ^ 40) (j:Ar<2 ^ 20) (hS:S<2 ^ 37) {ex:Ϣ->FT} (k:∀B,B<+:(ex B).2) {cs:Ϣ} (l:F cs<=Ar) {a:AV} (b:BN a (Aj (CO cs)))
  (m:∀t∈cs,E4 q t=Z/\pat t=Z/\AP t+Bi (·==(v:Int)) t*W<=S) (x:∀f,pH R e ml Ar v M W S B0 q ex f)
  {B:Ϣ} (y:B0<+:B) (z:F (Ce (Aa Ar) (Bw (Aa Ar) ex v) cs [] B).2<=M) (hF:D0 ml Ar (Ce (Aa Ar) (Bw (Aa Ar) ex v) cs [] B).1) {s:AY} (hs:BM s):V4 R e ml 81 [a,AG v] (Ce (Aa Ar) (Bw (Aa Ar) ex v) cs [] B) B s:=by
 intro L d o p A C;have le:=(BJ.1 A).1;have K:s.bs.set e [d,AG ml]=s.bs:=by grind[List.set_getElem_self]
 refine m81 AX ?_;rw[o,p];refine ANC (Au (n:=F cs) (by rw[b.BG,Ae,Bx,Bj]) ?_);exact zo hn u j hS k l b m x hs le z hF (λw D r E H I=>⟨D,r,E,H,I,rfl⟩) (F cs) 0 [] B s.bs s.ts d (.AE []) AA rfl y (AO _) hs AB (AU _) C (.inl rfl) (Cx.refl _ _) (Dt.AE _ _) (SZ.AE _ _)
end
def ED (ls:List Ϣ):Ϯ:=ls.map λl=>[.list (Aj (CO l))]
def IV (ls:List Ϣ):F (ED ls)=F ls:=by simp[ED]
def jS {ls:List Ϣ}:∀r∈ED ls,F r=1:=by grind[ED]
section
variable {R:RT}
def jT (rows:Ϯ):Ah (env R) 145 [.pv (.list rows)] λr=>r=BB (F rows==0):=by
 refine AWk AX (AGZ (Au (n:=F rows) rfl (BE ⟨_,rfl,?_⟩)));have e:(((F rows:Nat):Int)==0)=(F rows==0):=AB;rw[e]
def dK {ls:List Ϣ} {y:AV} (f:BN y (ED ls)) (o:F ls<2 ^ 60) {n0 ro rt:Nat} {s:AY} {QR:QT} :
  ∀(j p:Nat),p+j=F ls->(∀i:Int,decide (0<=i)=(ls.drop p).any List.isEmpty->QR (AG i) s)->uJ R n0 ro rt y (.func (.func 145) [] []) (AG (F ls)) (AG p) s QR:=by
 intro j
 induction j with
 | zero=>
  intro p k b;refine uK (Ao ?_);rw[A5 AA];rw[CR AA] at b;exact A4 (AGa (b (-1) AD))
 | succ j e=>
  intro p k b;refine uK (Ao ?_);rw[Ax AA];have⟨l,m⟩:∃l,ls[p]?=Y l:=⟨_,Az AA⟩;rw[drop_cons m] at b;refine BH (AGb (Bc f (row:=[.list (Aj (CO l))]) AA (by simp[*,ED]) rfl AA (Ds (AI (jT _) ?_))));rintro _ rfl;have n:(F (Aj (CO l))==0)=l.isEmpty:=by grind[Ae,Bx]
  rw[n];cases d:l.isEmpty with
  | true=>exact BH (b p (by simp[d]))
  | false=>
   refine A4 (AGc (Bb AA AA ?_));simp only[PX,d,Fy] at b;have:=e (p+1) AA b;simpa using this
def Xj {ls:List Ϣ} {y:AV} (d:BN y (ED ls)) (f:F ls<2 ^ 60) {s:AY} (hs:BM s) (L:Ba):∃i:Int,decide (0<=i)=ls.any List.isEmpty/\Bk (env R) L 166 [y,.func (.func 145) [] []] s (AG i) s:=by
 have e:∀s,BG s y=Y (F ls):=λs=>by rw[d.BG,IV]
 cases hn:F9 y with
 | true=>
  obtain⟨v,⟨i,rfl,h⟩,j⟩:=AWl (R:=R) (t0:=y) (t1:=.func (.func 145) [] []) (Post:=λv=>∃i:Int,v=AG i/\decide (0<=i)=ls.any List.isEmpty) (by grind[Da,F9]) (uL (Au (e _) (dK d f (F ls) 0 AA λi h=>⟨AG i,rfl,i,rfl,AB⟩)))
  grind
 | false=>
  obtain⟨v,b,⟨i,rfl,rfl,h⟩,j⟩:=AWm (R:=R) (L:=L) (s:=s) (t0:=y) (t1:=.func (.func 145) [] []) (Post:=λv b=>∃i:Int,v=AG i/\b=s/\decide (0<=i)=ls.any List.isEmpty) (by grind[Da]) (uL (Au (e _) (dK d f (F ls) 0 AA λi h=>by
   have:=Ji (rr:=L.rr 166) hs (m:=[]) (p:=.sc (.int .i64 i)) (Post:=λv b=>∃i:Int,v=AG i/\b=s/\decide (0<=i)=ls.any List.isEmpty) ⟨i,rfl,rfl,AB⟩
   simp_all)))
  grind
def pI {ls:List Ϣ} {y:AV} (f:BN y (ED ls)) (j:F ls<2 ^ 60) {s:AY} (hs:BM s) (L:Ba):Bk (env R) L 144 [y,.func (.func 145) [] []] s (BB (ls.any List.isEmpty)) s:=by
 have k:BM ⟨[],[]⟩:=λb hb=>by grind
 cases hn:F9 y with
 | true=>
  have⟨i,h,d⟩:=Xj (R:=R) f j k (Co (env R) 144 0 0 0);obtain⟨v,rfl,d⟩:=AWn (R:=R) (t0:=y) (t1:=.func (.func 145) [] []) (Post:=λv=>v=BB (ls.any List.isEmpty)) (by grind[Da,F9]) (uM ⟨_,_,d,Fq ⟨_,rfl,by rw[<-h]⟩⟩)
  grind
 | false=>
  have⟨i,h,d⟩:=Xj (R:=R) f j hs (Co (env R) 144 0 L.ro L.rt)
  obtain⟨v,e,⟨rfl,rfl⟩,d⟩:=AWo (R:=R) (L:=L) (s:=s) (t0:=y) (t1:=.func (.func 145) [] []) (Post:=λv e=>v=BB (ls.any List.isEmpty)/\e=s) (by grind[Da]) (uM ⟨_,_,d,Fq (by
   have:=Ji (rr:=L.rr 144) hs (m:=[]) (p:=.sc (.bool (decide (i>=0)))) (Post:=λv e=>v=BB (ls.any List.isEmpty)/\e=s) ⟨by rw[<-h],rfl⟩
   simp_all)⟩)
  omega
end
def dL {E:Env} {f:FuncId} {fn:Func} {body:Code} {args:Ϭ} {L:Ba} {s:AY} {Post:Ϡ} (d:E.P.funcs[f]?=Y fn) (hb:fn.body=Y body) (i:E.kind f=.esc) (j:E.clone f=Z) (k:E.told f=G) (e:J2 args=ϴ) (l:F args<=fn.ntmps)
  (h:Wp E (Co E f L.n0 L.ro L.rt) fn.ntmps fn.results.toList body [] (FP 0 args) s Post):∃v b,Post v b/\Bk E L f args s v b:=by
 have⟨r,b,n,o,p⟩:=N6 hb h;refine⟨r,b,p,⟨n+1,λm hm=>?_⟩⟩;obtain⟨m,rfl⟩:∃t,m=t+1:=⟨m-1,AA⟩;simp only[Dk,d,j,AQ,Pb,k,e,AL];unfold Ed;have:=o m AA;unfold Co at this;simp only[if_pos l,i];exact this
def uN {E:Env} {f:FuncId} {fn:Func} {args:Ϭ} (d:E.P.funcs[f]?=Y fn) (i:E.clone f=Z) (j:E.told f=G) (e:J2 args=Z):Ah E f args λv=>v=.AE []:=by
 refine⟨_,rfl,λL s=>⟨1,λm hm=>?_⟩⟩;obtain⟨m,rfl⟩:∃b,m=b+1:=⟨m-1,AA⟩
 grind[Dk,Pb]
section
variable {R:RT}
def MR {l:Ϣ} (p:F l<2 ^ 38) {a:AV} (d:BN a (Aj l)) {L:Ba} (k:L.rt=0) (s:AY):∃v j,(∃b,j=⟨s.bs,b⟩/\D1 0 b 25 v (Aj l)/\Cx (.AE []) v s.ts b)/\Bk (env R) L 57 [a] s v j:=by
 cases l with
 | nil=>
  have e:J2 [a]=true:=by
   rcases d with (rfl|rfl)|⟨t,rfl⟩ <;> rfl
  obtain⟨v,rfl,n⟩:=uN (E:=env R) (f:=57) (args:=[a]) Tryz.func57 AX AX e;exact⟨_,s,⟨s.ts,rfl,.inl rfl,Cx.refl _ _⟩,n L s⟩
 | cons x l=>
  have e:J2 [a]=false:=by
   rcases d with (rfl|rfl)|⟨t,rfl⟩ <;> rfl
  have m:∀K:AV->Prop,K (BB ϴ)->uO s (Y 1) (Uj a) (Y 1) .eql a (.AE []) K:=by
   intro K i;obtain⟨k1,r,u,y⟩:=x;rcases d with (rfl|rfl)|⟨t,rfl⟩ <;> exact⟨AX,i⟩
  refine dL (fn:=Tryz.f57) (body:=b57) Tryz.func57 AX AX AX AX e (Fz AX) ?_
  show ACF R L.n0 L.ro L.rt a s _
  refine ANE (m _ (A4 (ANF ?_)))
  have hb:∀K:Ϡ,K (.AE []) s->HJ ϴ s 4 [(AG 0),(SS []),(AG 0),(.AE [])] 0 [] K:=by
   intro K i;simpa[HJ,GC,CZ] using i
  exact hb _ ⟨AH,FO (es:=[]) (.inl rfl) k AB d λz b A o=>⟨b,rfl,AB,o⟩⟩
end
def ACG {a:AV} {rows:Ϯ} (h:BN a rows):KX a=Y (.list rows):=by
 rcases h with (rfl|rfl)|⟨t,rfl⟩ <;> rfl
def jU {l:Ϣ} {a:AV} (b:BN a (Aj l)) {s:AY} {K:Ϡ} (d:K (.AE [[.list (Aj l)]]) s):HJ ϴ s 1 [(.AE [])] 1 [(0,1,a)] K:=by
 simp[HJ,GC,CZ,b.ok,ACG b,b.cells];omega
def mJ {L:Ba} {s:AY} {a:AV} {os:List Ϣ} {p:Ϣ} {K:Ϡ} (f:D1 0 s.ts 23 a (ED os)) (e:L.rt=0) (j:F os<2 ^ 38) (h:∀d b,D1 0 b 23 d (ED (os++[p]))->Cx a d s.ts b->K d ⟨s.bs,b⟩) :
  I6 ϴ L s 23 1 24 a (.AE [[.list (Aj (CO p))]]) K:=by
 have k:=IV os;have hm:∀r∈[[PV.list (Aj (CO p))]],F r=1:=AD;refine RH (m:=[[.list (Aj (CO p))]]) f e jS hm AA (D7 (.inl (.AE _)) hm) AD AB AB λd b l i=>h d b ?_ i
 grind[ED]
def Cx.Ut {r:Ϯ} {v:AV} {ts e:Ϫ} (h:Cx (.AE r) v ts e):Dt v ts:=by
 intro t b;rcases h.2.2 with d|⟨u,d,f⟩
 .rw[d] at b
  cases b
 grind
def Dt.dis {v b:AV} {ts:Ϫ} {lo k:Nat} {rows:Ϯ} (h:Dt v ts) (hb:D1 lo ts k b rows):SZ v b:=by
 intro t e d;have f:=h t e;have i:=D1.uC hb d;omega
section
variable {R:RT}
def uP {l pre:Ϣ} {xa:AV} (W:BN xa (Aj (CO l))) (ς:F l<2 ^ 37) (ξ:F pre<2 ^ 37) {n:Nat} {X:Ϩ} {t0 t8 z A B C D E:AV} {QR:QT} :
  ∀(j p:Nat) (out:List Ϣ) (bs:Ϩ) (tk:Ϫ) (acc:AV),p+j=F l->F out+j<2 ^ 38->BM ⟨bs,tk⟩->bs.take n=X->n<=F bs->D1 0 tk 23 acc (ED out) ->
   (∀e f d,BM ⟨e,f⟩->e.take n=X->n<=F e->D1 0 f 23 d (ED (out++(l.drop p).map λx=>pre++[x]))->Cx acc d tk f->mK R 0 0 0 t0 t8 d z A B C D E ⟨e,f⟩ QR) ->
   uQ R 0 0 0 t0 t8 acc (.pv (.list (Aj (CO pre)))) z A B C D E xa (AG (F l)) (AG p) ⟨bs,tk⟩ QR:=by
 intro j
 induction j with
 | zero=>
  intro p out bs tk acc δ ε o r hn k i;refine uR (Ao ?_);rw[A5 AA];rw[CR AA] at i;exact A4 (i bs tk acc o r hn (by simpa using k) (Cx.refl _ _))
 | succ j α=>
  intro p out bs tk acc δ ε o r hn k i;refine uR (Ao ?_);rw[Ax AA];have⟨c,ζ⟩:∃c,l[p]?=Y c:=⟨_,Az AA⟩;have ο:(CO l)[p]?=Y (ren c):=by grind[Bx]
  have m:F ((Av (ren c)).map AV.pv)=4:=by grind[Aq]
  have H:=DG (ren c)
  have I:Ap (F bs+1) ((Av (ren c)).map AV.pv)=true:=by
   have⟨k1,σ,τ,υ⟩:=ren c;rfl
  have y:=(BD.Bo (ren c)).Du;have u:=NM (ren c);refine BH (zq (Bc W (row:=Av (ren c)) AA (by grind[BK]) (Aq _) AA (Cd (Bh ?_))));rw[drop_cons ζ] at i;generalize (Av (ren c)).map AV.pv=b at m H I y u;refine Bn (A0 bs Z4) m rfl AH (AO _) H (.inl (AO _)) ?_;have η:(bs++[Z4]).set (F bs) b=bs++[b]:=AD;rw[η];have β:BM ⟨bs++[b],tk⟩:=BM.app (s:=⟨bs,tk⟩) o I;have N:=A0 bs b;have φ:F (CO pre)=F pre:=by grind[Bx]
  obtain⟨v,χ,⟨π,rfl,θ,t⟩,ι⟩:=MR (R:=R) (l:=CO pre) AA (a:=.pv (.list (Aj (CO pre)))) (.inl (.list _)) (L:=Co (env R) 120 0 0 0) rfl ⟨bs++[b],tk⟩;have K:=t.Ut;have S:=t.keep k (λ_ h=>by cases h);refine⟨_,_,ι,Ag N m (Eg y ⟨AH,Jj θ rfl AA λψ ρ O Q=>?_⟩)⟩;have κ:CO pre++[ren c]=CO (pre++[c]):=by simp[Bx]
  rw[κ] at O;have T:=Q.keep S (K.dis k);refine jU O.BA ⟨AH,mJ T rfl AA λd M μ ν=>?_⟩;refine⟨Ag N m u,zu (Bb AA AA ?_)⟩;have γ:Cx acc d tk M:=(((Cx.refl acc tk).side t (Dt.AE _ _)).side Q K).trans ν;have:=α (p+1) (out++[pre++[c]]) (bs++[b]) M d AA AB β ((DL hn b).trans r) AB μ (λe f U k1 k2 k3 k4 k5=>i e f U k1 k2 k3 AB (γ.trans k5))
  grind
end
section
variable {R:RT}
def AGd {l:Ϣ} {xa y:AV} {b:List Ϣ} (r:BN xa (Aj (CO l))) (E:BN y (ED b)) (L:F l<2 ^ 37) (B:∀pre∈b,F pre<2 ^ 37) (T:F b<2 ^ 37) {n:Nat} {X:Ϩ} {t0 s t u:AV} {QR:QT} :
  ∀(j p:Nat) (next:List Ϣ) (bs:Ϩ) (tk:Ϫ) (acc:AV),p+j=F b->F next+j*F l<2 ^ 38->BM ⟨bs,tk⟩->bs.take n=X->n<=F bs->D1 0 tk 23 acc (ED next) ->
   (∀d e i,BM ⟨d,e⟩->d.take n=X->n<=F d->D1 0 e 23 i (ED (next++(b.drop p).flatMap λpre=>l.map λx=>pre++[x]))->Cx acc i tk e->mL R 0 0 0 t0 i s t u ⟨d,e⟩ QR) ->
   uS R 0 0 0 t0 xa acc s t u y (AG (F b)) (AG p) ⟨bs,tk⟩ QR:=by
 intro j
 induction j with
 | zero=>
  intro p next bs tk acc M z m o hn k f
  refine uT (Ao ?_);rw[A5 AA];rw[CR AA] at f;exact A4 (AGe (f bs tk acc m o hn (by simpa using k) (Cx.refl _ _)))
 | succ j H=>
  intro p next bs tk acc M z m o hn k f
  refine uT (Ao ?_);rw[Ax AA];have⟨pre,A⟩:∃c,b[p]?=Y c:=⟨_,Az AA⟩;rw[drop_cons A] at f;rw[Kh] at z;refine BH (AGf (Bc E (row:=[.list (Aj (CO pre))]) AA (by grind[ED]) rfl AA (Ds (Au (n:=F l) (by rw[r.BG,Ae,Bx,Bj]) ?_))));refine uP r L (B pre (A8 A)) (F l) 0 next bs tk acc AA AA m o hn k λI K C k1 k2 k3 k4 k5=>?_
  refine zw (Bb AA AA ?_);rw[Kg] at k4;have:=H (p+1) (next++l.map λx=>pre++[x]) I K C AA AB k1 k2 k3 k4 (λd e D N O Q U S=>f d e D N O Q AB (k5.trans S))
  grind
end
def AGg {a b:Nat} {K:AV->Prop} (hb:b≠0) (f:a<2 ^ 63) (h:K (AG ((a / b:Nat):Int))):Dh .i64 .quo (AG a) (AG b) K:=by
 have e:(a:Int).tdiv b=((a / b:Nat):Int):=(Int.ofNat_tdiv a b).symm;have d:=Nat.div_le_self a b;refine⟨⟨rfl,rfl⟩,AA,?_⟩;rw[e];generalize a / b=c at d h;exact Ci AA AA h
theorem dM (b:List Ϣ) (l:Ϣ):F (b.flatMap λp=>l.map λx=>p++[x])=F b*F l:=by
 induction b with
 | nil=>simp
 | cons o d e=>grind
def dN (v:AV) (r:Option (List Ϣ)):Prop:=match r with
 | none=>v=.tuple [.AE [],BB ϴ]
 | some o=>∃a,v=.tuple [a,BB Z]/\BN a (ED o)
section
variable {R:RT}
def uU {e ml Ar:Nat} (α:Ar<2 ^ 20) {d:AV} {ls:List Ϣ} {A:AV} (I:BN A (ED ls)) (β:F ls<2 ^ 36) (K:∀l∈ls,l≠[]/\F l<2 ^ 37) {n:Nat} {X:Ϩ} (Q:X[e]?=Y [d,AG ml]) {N7:Ϫ} {r:Option (List Ϣ)} (hF:D0 ml Ar r) {QR:QT}
  (B:∀v t u,dN v r->BM ⟨t,u⟩->t.take n=X->Cx (.AE []) (.AE []) N7 u->QR v ⟨t,u⟩) :
  ∀(j p:Nat) (b:List Ϣ) (bs:Ϩ) (tk:Ϫ) (acc:AV),p+j=F ls->Df (Aa Ar) (ls.drop p) b=r->F b<=Ar+1->(∀o∈b,F o<=p)->BM ⟨bs,tk⟩->bs.take n=X->n<=F bs->BN acc (ED b)->Cx (.AE []) (.AE []) N7 tk ->
   uV R 0 0 0 (.ptr e 0) acc A (AG (F ls)) (AG p) ⟨bs,tk⟩ QR:=by
 intro j
 induction j with
 | zero=>
  intro p b bs tk acc S f T U s k hn i m;refine uW (Ao ?_);rw[A5 AA];rw[CR AA,Df] at f;subst f;exact A4 (AGh (B _ _ _ ⟨acc,rfl,i⟩ s k m))
 | succ j L=>
  intro p b bs tk acc S f T U s k hn i m;refine uW (Ao ?_);rw[Ax AA];have⟨l,C⟩:∃c,ls[p]?=Y c:=⟨_,Az AA⟩;have⟨M,D⟩:=K l (A8 C);have E:0<F l:=List.length_pos_iff.2 M;rw[drop_cons C,Df,dM] at f;have y:=CN k Q;have z:BN (.pv (.list (Aj (CO l)))) (Aj (CO l)):=.inl (.list _);refine BH (AGi (Bc I (row:=[.list (Aj (CO l))]) AA (by grind[ED]) rfl AA (Ds (Au (n:=F b) (by rw[i.BG,IV]) (DK (Ab y) (AR (Ab y) (Ad (off:=1) y rfl (Au (n:=F l) (by rw[z.BG,Ae,Bx,Bj]) (AGg AA hF.2.2.1 (Gv ?_))))))))));have W:decide ((F b:Int)>((ml / F l:Nat):Int))=Aa Ar (F b*F l):=D0.quo (by rw[f]; exact hF) E;rw[W];cases hb:Aa Ar (F b*F l) with
  | true=>
   rw[hb] at f;simp only[AQ] at f;subst f;exact BH (B _ _ _ rfl s k m)
  | false=>
   rw[hb] at f;simp only[AL] at f;have γ:F b*F l<=Ar:=AB;refine A4 (AGj (Au (n:=F b) (by rw[i.BG,IV]) ?_));refine AGd z i D (λo hm=>by grind) AA (F b) 0 [] bs tk (.AE []) AA AB s k hn (.inl rfl) λN O H k1 k2 k3 k4 k5=>?_
   refine zx (Bb AA AA ?_);rw[Kg,Ct] at k4;have:=L (p+1) (b.flatMap λpre=>l.map λx=>pre++[x]) N O H AA f (by grind[dM]) AB k1 k2 k3 k4.BA (m.side k5 (Dt.AE _ _))
   grind
end
def ACH {rr:Bool} {v:AV} {r:Option (List Ϣ)} {s0:AY} {bs:Ϩ} {ts:Ϫ} {Post:Ϡ} (k:BM s0) (e:bs.take (F s0.bs)=s0.bs) (f:dN v r) (i:∀w,dN w r->Post w ⟨s0.bs,ts⟩):QM rr (F s0.bs) Post v ⟨bs,ts⟩:=by
 have d:((bs.take (F s0.bs)).all (Ap (F s0.bs)))=true:=by
  rw[Cl];intro b hb;exact k b AB
 cases r with
 | none=>
  cases f;refine KF (ds:=[.AE [],BB ϴ]) d rfl ?_
  show Post _ ⟨bs.take _,ts⟩
  rw[e];exact i _ rfl
 | some l=>
  obtain⟨a,rfl,m⟩:=f;have⟨j,o,n⟩:=m.close bs (F s0.bs) (F ts);refine KF (ds:=[j,BB Z]) d (by grind[BZ,Tel.close]) ?_
  show Post _ ⟨bs.take _,ts⟩
  rw[e];exact i _ ⟨j,rfl,n⟩
section
variable {R:RT}
def zy {e ml Ar:Nat} (m:Ar<2 ^ 20) {d:AV} {ls:List Ϣ} {j:AV} (b:BN j (ED ls)) (o:F ls<2 ^ 36) (C:∀l∈ls,F l<2 ^ 37) {s:AY} (hs:BM s) (x:s.bs[e]?=Y [d,AG ml]) (hF:D0 ml Ar (bif ls.any List.isEmpty then Y [] else Df (Aa Ar) ls [[]])) {L:Ba} (p:L.ro=0) (t:L.rt=0) :
  ∃v k,(∃i,dN v (bif ls.any List.isEmpty then Y [] else Df (Aa Ar) ls [[]])/\Cx (.AE []) (.AE []) s.ts i/\k=⟨s.bs,i⟩)/\Bk (env R) L 120 [.ptr e 0,j] s v k:=by
 refine AWp AX ?_;rw[p,t];refine AGk ⟨_,_,pI b AA hs _,?_⟩;cases y:ls.any List.isEmpty with
 | true=>exact BH (ACH hs AD (r:=Y []) ⟨.AE [],rfl,.inl (.AE _)⟩ λw f=>⟨s.ts,f,Cx.refl _ _,rfl⟩)
 | false=>
  refine A4 (AGl (jU (l:=[]) (.inl (.AE _)) (Au (n:=F ls) (by rw[b.BG,IV]) ?_)));refine uU (n:=F s.bs) (X:=s.bs) (N7:=s.ts) (r:=Df (Aa Ar) ls [[]]) m b o ?_ x (by rw[y] at hF; exact hF) (λv D u z E A B=>ACH hs A z λw f=>⟨u,f,B,rfl⟩) (F ls) 0 [[]] s.bs s.ts (.AE [[.list (Aj [])]]) AA rfl AD AD hs AD (AU _) (.inl (.AE _)) (Cx.refl _ _)
  grind
end
section
variable {R:RT}
def AGm {all:List Ϣ} {i:AV} (m:BN i (ED all)) (y:F all<2 ^ 37) {f:AV} {bs:Ϩ} {N7:Ϫ} {QR:QT}
  (r:∀acc b,D1 0 b 25 acc (Aj (CO (all.map (.mk 3 [] 0))))->Cx (.AE []) acc N7 b->ACI R 0 0 0 f acc ⟨bs,b⟩ QR) :
  ∀(j p:Nat) (tk:Ϫ) (acc:AV),p+j=F all->D1 0 tk 25 acc (Aj (CO ((all.take p).map (.mk 3 [] 0))))->Cx (.AE []) acc N7 tk ->
   uX R 0 0 0 f acc i (AG (F all)) (AG p) ⟨bs,tk⟩ QR:=by
 intro j
 induction j with
 | zero=>
  intro p tk acc s d e;refine uY (Ao ?_);rw[A5 AA];rw[CC AA] at d;exact A4 (r acc tk d e)
 | succ j n=>
  intro p tk acc s d e;refine uY (Ao ?_);rw[Ax AA];have⟨o,z⟩:∃c,all[p]?=Y c:=⟨_,Az AA⟩;have t:BX (ren (.mk 3 [] 0 o)) (.agg [AG 3,SS [],AG 0,.pv (.list (Aj (CO o)))]):=⟨_,rfl,.inl (.list _)⟩;refine BH (ANG (Bc m (row:=[.list (Aj (CO o))]) AA (by grind[ED]) rfl AA (Ds (FV (cs:=[AG 3,SS [],AG 0,.pv (.list (Aj (CO o)))]) rfl (Eg t ⟨AH,Jj d rfl (by grind[Bx]) λl b k u=>ANH (Bb AA AA ?_)⟩)))));have x:CO ((all.take p).map (.mk 3 [] 0))++[ren (.mk 3 [] 0 o)]=CO ((all.take (p+1)).map (.mk 3 [] 0)):=by grind[List.take_add_one,Bx]
  rw[x] at k;have:=n (p+1) b l AA k (e.trans u)
  grind
end
section
variable {R:RT}
def z6 {e ml Ar M:Nat} (a0:Ar<2 ^ 20) {ex:Ty->Ϣ->FT} {B0:Ϣ} (α:∀t B,B<+:(ex t B).2) {ts:Ϣ} {η:AV} (π:BN η (Aj (CO ts))) (a6:F ts<2 ^ 37)
  (ψ:∀t∈ts,∀B,B0<+:B->F (ex t B).2<=M->D0 ml Ar (ex t B).1->∀x,BX (ren t) x->∀s,BM s->V4 R e ml 44 [x] (ex t B) B s)
  {s0:AY} (ω:e<F s0.bs) {N:AV} {o:Option (List Ϣ)×Ϣ} (a1:F o.2<=M) (hF:D0 ml Ar o.1) {QR:QT}
  (Γ:o.1=G->∀bs tk d,bs.take (F s0.bs)=s0.bs.set e [d,AG ml]->D1 0 tk 25 d (Aj o.2)->Cx N d s0.ts tk->QR (.tuple [.AE [],BB ϴ]) ⟨bs,tk⟩)
  (hS:∀ls,o.1=Y ls->∀bs tk d acc,BM ⟨bs,tk⟩->bs.take (F s0.bs)=s0.bs.set e [d,AG ml]->F s0.bs<=F bs->D1 0 tk 25 d (Aj o.2)->Cx N d s0.ts tk->BN acc (ED ls)->ACJ R 0 0 0 (.ptr e 0) acc ⟨bs,tk⟩ QR) :
  ∀(j p:Nat) (out:List Ϣ) (i:Ϣ) (bs:Ϩ) (tk:Ϫ) (d acc:AV),p+j=F ts->Ey ex (ts.drop p) out i=o->B0<+:i->F out<=p ->
   BM ⟨bs,tk⟩->bs.take (F s0.bs)=s0.bs.set e [d,AG ml]->F s0.bs<=F bs ->
   D1 0 tk 25 d (Aj i)->D1 0 tk 23 acc (ED out)->Cx N d s0.ts tk->Dt acc s0.ts->SZ d acc ->
   ACK R 0 0 0 (.ptr e 0) acc η (AG (F ts)) (AG p) ⟨bs,tk⟩ QR:=by
 intro j
 induction j with
 | zero=>
  intro p out i bs tk d acc Δ b O ρ Q S E T n u H C;refine ACL (Ao ?_);rw[A5 AA];rw[CR AA,Ey] at b;subst b;exact A4 (hS out rfl bs tk d acc Q S E T u n.BA)
 | succ j ς=>
  intro p out i bs tk d acc Δ b O ρ Q S E T n u H C;refine ACL (Ao ?_);rw[Ax AA];have⟨c,θ⟩:∃c,ts[p]?=Y c:=⟨_,Az AA⟩;have a3:(CO ts)[p]?=Y (ren c):=by grind[Bx]
  have I:F ((Av (ren c)).map AV.pv)=4:=by grind[Aq]
  have β:=DG (ren c)
  have γ:Ap (F bs+1) ((Av (ren c)).map AV.pv)=true:=by
   have⟨k1,a7,a8,a9⟩:=ren c;rfl
  have W:=(BD.Bo (ren c)).Du;refine BH (ANI (Bc π (row:=Av (ren c)) AA (by grind[BK]) (Aq _) AA (Cd (Bh ?_))));rw[drop_cons θ,Ey] at b;generalize (Av (ren c)).map AV.pv=f at I β γ W;refine Bn (A0 bs Z4) I rfl AH (AO _) β (.inl (AO _)) ?_;have Θ:(bs++[Z4]).set (F bs) f=bs++[f]:=AD;rw[Θ];have K:BM ⟨bs++[f],tk⟩:=BM.app (s:=⟨bs,tk⟩) Q γ;have ι:=A0 bs f;have δ:=(DL E f).trans S;have Λ:F (bs++[f])=F bs+1:=AD;generalize bs++[f]=m at K ι δ Λ;have Ξ:(s0.bs.set e [d,AG ml])[e]?=Y [d,AG ml]:=by rw[Cv ω]
  have a4:∀(l:Ϣ) out B,B<+:(Ey ex l out B).2:=λl out B=>UY α l out B
  have L:=ψ c (A8 θ) i O;have D:=α c i;rcases Φ:ex c i with ⟨r,κ⟩
  rw[Φ] at b L D;simp only at b L D;have ν:F κ<=M:=AB
  have σ:D0 ml Ar r:=by
   cases r with
   | none=>
    rw[<-b] at hF;exact hF.none _
   | some r=>exact hF.some _
  obtain⟨b0,a5,⟨k,τ,q1,y,z,rfl⟩,Ψ⟩:=L ν σ (.agg f) W ⟨m,tk⟩ K (Co (env R) 88 0 0 0) d rfl rfl (CN δ Ξ) T;have ε:(m.set e [k,AG ml]).take (F s0.bs)=s0.bs.set e [k,AG ml]:=by simp[*,Ep]
  refine Ag ι I ⟨_,_,Ψ,?_⟩;cases r with
  | none=>
   cases q1;simp only at b;subst b;exact B9 rfl (B9 rfl (nt (BH (Γ rfl _ τ k ε y (u.trans z)))))
  | some r=>
   obtain⟨b2,rfl,υ⟩:=q1;simp only at b;have μ:=z.keep n C;have U:SZ k acc:=C.QG z n;refine B9 rfl (B9 rfl (nt (A4 (ANJ (jU υ ⟨AH,mJ μ rfl AA λξ ζ Ω A=>ANK (Bb AA AA ?_)⟩)))));have X:=u.trans z;have φ:=A.keep y U.symm;have ο:=X.side A H;have χ:BM ⟨m.set e [k,AG ml],ζ⟩:=BM.set (s:=⟨m,tk⟩) K (by simp[Ap,A6,y.BA.A6]) _;have:=ς (p+1) (out++[r]) κ (m.set e [k,AG ml]) ζ k ξ AA b (O.trans D) AB χ ε AB φ Ω ο (H.QG A X.1) (U.symm.QG A y).symm
   grind
def KG (Ar:Nat) (ex:Ty->Ϣ->FT) (ts B:Ϣ):FT:=match Ey ex ts [] B with
 | (G,B)=>(G,B)
 | (Y b,B)=>bif b.any List.isEmpty then(Y [],B) else match Df (Aa Ar) b [[]] with
  | none=>(G,B)
  | some all=>(Y (all.map (.mk 3 [] 0)),B)
def Xk {Ar:Nat}:∀(ls out r:List Ϣ),Df (Aa Ar) ls out=Y r->F r<=Ar\/r=out
 | [],out,r,h=>by grind[Df]
 | l::ls,out,r,h=>by
  rw[Df] at h;cases hb:Aa Ar (F (out.flatMap λp=>l.map λx=>p++[x])) with
  | true=>grind
  | false=>
   rw[hb] at h;have b:F (out.flatMap λp=>l.map λx=>p++[x])<=Ar:=AB;rcases Xk ls _ r h with h1|h1
   all_goals grind
end
def Xl {Ar:Nat} {ex:Ty->Ϣ->FT}:∀(l:Ϣ) (out:List Ϣ) (B:Ϣ) (r:List Ϣ),(∀t∈l,∀B r,(ex t B).1=Y r->F r<=Ar)->(Ey ex l out B).1=Y r->(∀o∈out,F o<=Ar)->(∀o∈r,F o<=Ar)/\F r=F out+F l
 | [],out,B,r,_,h,b=>by grind[Ey]
 | t::l,out,B,r,hx,h,b=>by
  have d:=hx t AD B;rw[Ey] at h;rcases e:ex t B with ⟨_|s,f⟩
  .grind
  .rw[e] at h d
   have:=Xl l (out++[s]) f r (λa i=>hx a AB) h AB
   grind
section
variable {R:RT}
def z7 {e ml Ar M:Nat} (E:Ar<2 ^ 20) {ex:Ty->Ϣ->FT} {B0:Ϣ} (β:∀t B,B<+:(ex t B).2) {ts:Ϣ} (γ:∀t∈ts,∀B r,(ex t B).1=Y r->F r<=Ar) {N:AV} (I:BN N (Aj (CO ts))) (ρ:F ts<2 ^ 36)
  (ς:∀t∈ts,∀B,B0<+:B->F (ex t B).2<=M->D0 ml Ar (ex t B).1->∀x,BX (ren t) x->∀s,BM s->V4 R e ml 44 [x] (ex t B) B s)
  {B:Ϣ} (σ:B0<+:B) (O:F (KG Ar ex ts B).2<=M) (hF:D0 ml Ar (KG Ar ex ts B).1) {s:AY} (hs:BM s):V4 R e ml 88 [N] (KG Ar ex ts B) B s:=by
 intro L d δ ε τ υ;have le:=(BJ.1 τ).1;have Θ:s.bs.set e [d,AG ml]=s.bs:=by grind[List.set_getElem_self]
 refine m88 AX ?_;rw[δ,ε];refine ANL (Au (n:=F ts) (by rw[I.BG,Ae,Bx,Bj]) ?_);have D:=Xl (Ar:=Ar) ts [] B (ex:=ex);rcases C:Ey ex ts [] B with ⟨r,j⟩
 rw[C] at D;have ζ:(KG Ar ex ts B).2=j:=by grind[KG]
 rw[ζ] at O
 have η:D0 ml Ar r:=by
  cases r with
  | none=>
   have m:KG Ar ex ts B=(G,j):=by rw[KG,C]
   rw[m] at hF;exact hF.none _
  | some r=>exact hF.some _
 refine z6 (M:=M) E β I AA ς le (o:=(r,j)) O η ?_ ?_ (F ts) 0 [] B s.bs s.ts d (.AE []) AA AB σ (AO _) hs AB (AU _) υ (.inl rfl) (Cx.refl _ _) (Dt.AE _ _) (SZ.AE _ _)
 .rintro h z tk f p k A
  simp only at h;subst h;have m:KG Ar ex ts B=(G,j):=by rw[KG,C]
  rw[m];exact FN hs p (k.BA.A6 _) (r:=G) rfl λw u=>⟨f,tk,u,k,A,rfl⟩
 .rintro i h z tk f acc θ p Ξ k A X
  simp only at h k;subst h
  have m:KG Ar ex ts B=bif i.any List.isEmpty then(Y [],j) else match Df (Aa Ar) i [[]] with
   | none=>(G,j)
   | some all=>(Y (all.map (.mk 3 [] 0)),j):=by grind[KG]
  have⟨Φ,ι⟩:=D i γ rfl AD
  have κ:D0 ml Ar (bif i.any List.isEmpty then Y [] else Df (Aa Ar) i [[]]):=by
   rw[m] at hF;cases hb:i.any List.isEmpty with
   | true=>exact hF.some _
   | false=>
    rw[hb] at hF;simp only[AL] at hF ⊢;cases φ:Df (Aa Ar) i [[]] with
    | none=>
     rw[φ] at hF;exact hF.none _
    | some all=>exact hF.some _
  have χ:z[e]?=Y [f,AG ml]:=CN p (by rw[Cv le]);simp only[CQ,CY] at ι;obtain⟨v,Q,⟨b,ψ,S,rfl⟩,ω⟩:=zy (R:=R) (L:=Co (env R) 88 0 0 0) E X AA (λl ρ=>by grind) θ χ κ rfl rfl;have y:=S.keep k (λ_ h=>by cases h);have H:=A.side S (Dt.AE _ _);refine ANM ⟨_,_,ω,?_⟩
  have μ:∀(r:Option (List Ϣ)) ,dN v r->(r.map (List.map (Ty.mk 3 [] 0)),j)=KG Ar ex ts B->(∀all,r=Y all->F all<=Ar+1) ->
    Iu v 0 λK=>Iu v 1 λν=>Gl ⟨z,b⟩ K λξ=>uX R 0 0 0 ν (.AE []) K ξ (AG 0) ⟨z,b⟩ (QM (L.rr 88) (F s.bs) (λv Q=>∃f b,yu v (KG Ar ex ts B).1/\D1 0 b 25 f (Aj (KG Ar ex ts B).2)/\Cx d f s.ts b/\Q=⟨s.bs.set e [f,AG ml],b⟩)):=by
   intro r T Γ ο;rw[<-Γ];cases r with
   | none=>
    cases T;refine B9 rfl (B9 rfl (Au (n:=0) rfl (uY (Ao ?_))));rw[A5 AA];exact A4 (ACN (FN hs p (y.BA.A6 _) (r:=G) rfl λw u=>⟨f,b,u,y,H,rfl⟩))
   | some all=>
    obtain⟨a,rfl,U⟩:=T;have Λ:=ο all rfl;refine B9 rfl (B9 rfl (Au (n:=F all) (by rw[U.BG,IV]) ?_));refine AGm U AA (N7:=b) ?_ (F all) 0 b (.AE []) AA (.inl rfl) (Cx.refl _ _);intro α π Δ W;refine ACN (FN hs p (y.BA.A6 _) (r:=Y (all.map (.mk 3 [] 0))) ⟨α,rfl,Δ.BA⟩ λw u=>⟨f,π,u,W.keep y (λ_ h=>by cases h),H.side W (Dt.AE _ _),rfl⟩)
  refine μ _ ψ ?_ ?_
  .grind
  .intro all h
   cases hb:i.any List.isEmpty with
   | true=>grind
   | false=>
    rw[hb] at h;simp only[AL] at h;rcases Xk i [[]] all h with h1|h1
    all_goals grind
end
end Go.Proofs.YtpgfpakdnijngaaGreatDoor
