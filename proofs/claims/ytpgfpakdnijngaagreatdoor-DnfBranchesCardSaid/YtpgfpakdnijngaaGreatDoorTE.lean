/-
  expand: its end; the loop over a union's members.
-/
import Derived.Test.YtpgfpakdnijngaaGreatDoorTD
import Derived.Test.YtpgfpakdnijngaaGreatDoorTC
import Derived.Test.YtpgfpakdnijngaaGreatDoorTB
import Derived.Test.YtpgfpakdnijngaaGreatDoorW1
set_option linter.all false
namespace Go.Proofs.YtpgfpakdnijngaaGreatDoor
open Go.Tel
open List renaming length->F
open Option renaming some->Y,none->G
open Bool renaming true->Z,false->ϴ
section
variable {R:RT}
def TF {e:Nat} {b:AV} {s:AY} {QR:QT} (h:QR (.tuple [.AE [],BB ϴ]) s):mM R 0 0 0 (.ptr e 0) b (BB ϴ) s QR:=
 ACO (nt (C8 (C8 (C8 (C8 (C8 (C8 (C8 (pk (BH h))))))))))
def dP {e ml Ar:Nat} {d a:AV} {l:Ϣ} {s:AY} {QR:QT} (i:BN a (Aj (CO l))) (f:s.bs[e]?=Y [d,AG ml]) (hF:D0 ml Ar (bif Aa Ar (F l) then G else Y l)) (h:∀w,yu w (bif Aa Ar (F l) then G else Y l)->QR w s):mM R 0 0 0 (.ptr e 0) a (BB Z) s QR:=by
 refine ACO (nt (Aw (b:=ϴ) (Aw (b:=ϴ) (Au (n:=F l) (by rw[i.BG,Ae,Bx,Bj]) (Aw (b:=ϴ) (Aw (b:=ϴ) (DK (Ab f) (Aw (b:=ϴ) (AR (Ab f) (Aw (b:=ϴ) (Ad (off:=1) f rfl (Aw (b:=ϴ) (Gv (pk ?_))))))))))))));have j:decide ((F l:Int)>(ml:Nat))=Aa Ar (F l):=hF.AM4;rw[j];cases hb:Aa Ar (F l) with
 | true=>rw[hb] at h; exact BH (h _ rfl)
 | false=>rw[hb] at h; exact A4 (ANN (h _ ⟨a,rfl,i⟩))
def O8 {ex:Ty->Ϣ->FT}:∀(l:Ϣ) (out B:Ϣ),(G1 ex l out ϴ B).1.2=ϴ
 | [],out,B=>rfl
 | t::l,out,B=>by
  rw[G1];rcases ex t B with ⟨_|s,b⟩
  .exact O8 l _ _
  .exact O8 l _ _
def z8 {e ml Ar M:Nat} {ex:Ty->Ϣ->FT} {B0:Ϣ} (ξ:∀t B,B<+:(ex t B).2) {ts:Ϣ} (Φ:∀t∈ts,∀B r,(ex t B).1=Y r->F r<=Ar) {D:AV} (Ψ:BN D (Aj (CO ts))) (hl:F ts*Ar<2 ^ 38) (hl2:F ts<2 ^ 38)
  (b0:∀t∈ts,∀B,B0<+:B->F (ex t B).2<=M->D0 ml Ar (ex t B).1->∀x,BX (ren t) x->∀s,BM s->V4 R e ml 44 [x] (ex t B) B s)
  {s0:AY} (b2:e<F s0.bs) {χ:AV} {o:(Ϣ×Bool)×Ϣ} (hoM:F o.2<=M) (hF:D0 ml Ar (bif o.1.2 then Y o.1.1 else G)) {QR:QT}
  (ψ:∀bs tk d acc,BM ⟨bs,tk⟩->bs.take (F s0.bs)=s0.bs.set e [d,AG ml]->D1 0 tk 25 d (Aj o.2)->Cx χ d s0.ts tk->BN acc (Aj (CO o.1.1))->mM R 0 0 0 (.ptr e 0) acc (BB o.1.2) ⟨bs,tk⟩ QR) :
  ∀(j p:Nat) (out:Ϣ) (ok:Bool) (i:Ϣ) (bs:Ϩ) (tk:Ϫ) (d acc:AV),p+j=F ts->G1 ex (ts.drop p) out ok i=o->B0<+:i->F out+j*Ar<=F ts*Ar ->
   BM ⟨bs,tk⟩->bs.take (F s0.bs)=s0.bs.set e [d,AG ml]->F s0.bs<=F bs ->
   D1 0 tk 25 d (Aj i)->D1 0 tk 25 acc (Aj (CO out))->Cx χ d s0.ts tk->Dt acc s0.ts->SZ d acc ->
   ACP R 0 0 0 (.ptr e 0) acc (BB ok) D (AG (F ts)) (AG p) ⟨bs,tk⟩ QR:=by
 intro j
 induction j with
 | zero=>
  intro p out ok i bs tk d acc b3 f X ο α β π γ A O Q H;refine ACQ (Ao ?_);rw[A5 AA];rw[CR AA,G1] at f;subst f;exact A4 (ψ bs tk d acc α β γ O A.BA)
 | succ j Ω=>
  intro p out ok i bs tk d acc b3 f X ο α β π γ A O Q H;refine ACQ (Ao ?_);rw[Ax AA];have⟨c,δ⟩:∃c,ts[p]?=Y c:=⟨_,Az AA⟩;have hrc:(CO ts)[p]?=Y (ren c):=by grind[Bx]
  have S:F ((Av (ren c)).map AV.pv)=4:=by grind[Aq]
  have ρ:=DG (ren c)
  have ς:Ap (F bs+1) ((Av (ren c)).map AV.pv)=true:=by
   have⟨k1,n1,i1,t1⟩:=ren c;rfl
  have ι:=(BD.Bo (ren c)).Du;rw[Kh] at ο;refine BH (ANO (Bc Ψ (row:=Av (ren c)) AA (by grind[BK]) (Aq _) AA (Cd (Bh ?_))));rw[drop_cons δ,G1] at f;generalize (Av (ren c)).map AV.pv=k at S ρ ς ι;refine Bn (A0 bs Z4) S rfl AH (AO _) ρ (.inl (AO _)) ?_;have b4:(bs++[Z4]).set (F bs) k=bs++[k]:=AD;rw[b4];have T:BM ⟨bs++[k],tk⟩:=BM.app (s:=⟨bs,tk⟩) α ς;have ω:=A0 bs k;have σ:=(DL π k).trans β;have b5:F (bs++[k])=F bs+1:=AD;generalize bs++[k]=u at T ω σ b5;have b6:(s0.bs.set e [d,AG ml])[e]?=Y [d,AG ml]:=by rw[Cv b2]
  have hfp:∀(l:Ϣ) out ok B,B<+:(G1 ex l out ok B).2:=λl out ok B=>QC ξ l out ok B
  have U:=b0 c (A8 δ) i X;have τ:=Φ c (A8 δ) i;have I:=ξ c i;rcases b7:ex c i with ⟨r,E⟩
  rw[b7] at f U I τ;simp only at f U I τ;have Θ:F E<=M:=AB
  have a0:D0 ml Ar r:=by
   cases r with
   | none=>
    simp only[Sr] at f;have Γ:=O8 (ex:=ex) (ts.drop (p+1)) out E;rw[f] at Γ;rw[Γ] at hF;exact hF.none _
   | some r=>exact hF.some _
  obtain⟨w2,s2',⟨m,a1,q1,ε,ζ,rfl⟩,b8⟩:=U Θ a0 (.agg k) ι ⟨u,tk⟩ T (Co (env R) 44 0 0 0) d rfl rfl (CN σ b6) γ;have a3:(u.set e [m,AG ml]).take (F s0.bs)=s0.bs.set e [m,AG ml]:=by simp[*,Ep]
  have Δ:=ζ.keep A H;have η:SZ m acc:=H.QG ζ A;have κ:=O.trans ζ
  have Λ:∀(b:Bool) (s:AY) (K:Ϡ),K (BB (ok&&b)) s->Qk (BB ok) Z s (λK=>K (BB b) s) λW b9=>Gq (BB ok) W (BB ϴ) λy=>K y b9:=by
   intro b s K ψ;cases ok with
   | true=>grind[Aw,pk]
   | false=>grind[B7,pk]
  refine Ag ω S ⟨_,_,b8,?_⟩
  have go:∀(z:AV) (b:Bool) (L:Ϣ) (n:Ϣ),L=out++n->F n<=Ar->BN z (Aj (CO n))->G1 ex (ts.drop (p+1)) L (ok&&b) E=o ->
    Iu (.tuple [z,BB b]) 0 λa4=>Iu (.tuple [z,BB b]) 1 λa5=>(4=4/\4≠0)/\I6 ϴ (Co (env R) 44 0 0 0) ⟨u.set e [m,AG ml],a1⟩ 25 4 56 acc a4 λa6 μ=>
     Qk (BB ok) Z μ (λK=>K a5 μ) λW N=>Gq (BB ok) W (BB ϴ) λy=>uZ R 0 0 0 (.ptr e 0) a6 y D (AG (F ts)) (AG p) N QR:=by
   intro z b L n a7 hr2 υ f;subst a7;refine B9 rfl (B9 rfl ⟨AH,FO Δ rfl (by grind[Bx]) υ λν φ θ C=>Λ b _ (λy N=>uZ R 0 0 0 (.ptr e 0) ν y D (AG (F ts)) (AG p) N QR) (ANP (Bb AA AA ?_))⟩);have er:CO out++CO n=CO (out++n):=by simp[Bx]
   rw[er] at θ;have a8:=C.keep ε η.symm;have Ξ:=κ.side C Q;have a9:BM ⟨u.set e [m,AG ml],φ⟩:=BM.set (s:=⟨u,tk⟩) T (by simp[Ap,A6,ε.BA.A6]) _;have:=Ω (p+1) (out++n) (ok&&b) E (u.set e [m,AG ml]) φ m ν AA f (X.trans I) AB a9 a3 AB a8 θ Ξ (Q.QG C κ.1) (η.symm.QG C ε).symm
   grind
  cases r with
  | none=>
   cases q1;exact go (.AE []) ϴ out [] AD AD (.inl (.AE _)) AB
  | some r=>
   obtain⟨z,rfl,υ⟩:=q1
   grind
end
attribute [local simp] Hr MD Ir JL EK E3 Ee wO setCells Hw EX Dd Co Ex alive Dh Jf Qk bU Gq Iu Gl Hs K9 Iv gX fY okB gY gZ gh gi gj ag gm gp gu gv gw gx gy gz hG hJ hO okF hY iA iB iC iD Tu iE Ow Ox Oy Oz iG iH iI iJ iK iL iM iP iQ iR GG iT fZ iU iV iW iX iY iZ ia ic ie ig C0
def AGn {L:Ba} {s:AY} {a:AV} {es:Ϣ} {t z:Ty} {K:Ϡ} (f:D1 0 s.ts 25 a (Aj es)) (n:L.rt=0) (p:F es<2 ^ 38) (h:∀d b,D1 0 b 25 d (Aj (es++[t]))->Cx a d s.ts b->K d ⟨s.bs,b⟩) :
  wFu L s 25 4 56 a (.AE [Av z]) (AG (F es)) (.agg ((Av t).map .pv)) K:=by
 have m:=Ae es;have e:((Aj es).all λr=>F r==4)=true:=by grind[HV]
 have i:C0 ((Av t).map AV.pv)=Y (Av t):=Li _;refine⟨⟨Av z,rfl,Aq z,DG z⟩,?_,?_⟩
 .rcases f with rfl|⟨u,rfl,_,_⟩ <;> simp[*,Ho]
 .unfold ANR
  refine⟨DG t,?_⟩
  show wO (C0 ((Av t).map AV.pv)) _
  rw[i];refine⟨Aq t,?_⟩;have j:Aj es++[Av t]=Aj (es++[t]):=by simp[Ff,Aj]
  rcases f with rfl|⟨u,rfl,k,x⟩
  .refine⟨⟨AA,AA,e⟩,?_⟩
   refine h (.own (F s.ts) (Aj es++[Av t])) _ (.inr ⟨_,by rw[j],?_,AO _⟩) ⟨AD,λt i _=>?_,.inr ⟨_,rfl,AU _⟩⟩
   all_goals grind
  .refine⟨⟨AA,AA,k,AA,e⟩,?_⟩
   have o:u<F s.ts:=(BJ.1 k).1;refine h (.own u (Aj es++[Av t])) _ (.inr ⟨u,by rw[j],?_,AO _⟩) ⟨AD,λw y hn=>?_,.inl rfl⟩
   .grind
   .rw[Ge]
    intro l;exact hn (by rw[<-l]; rfl)
theorem BN.D9 {a:AV} {es:Ϣ} (h:BN a (Aj es)):Tel.D9 a a=true:=by
 rcases h with (rfl|rfl)|⟨t,rfl⟩ <;> simp[Tel.D9,Dm,OH]
abbrev qM (M:Nat):Int->Bool:=λi=>decide (0<=i)&&decide (i<M)
def ua {Ar M f v:Nat} {b:Ty} (k:A2 b=Z) (y:CJ 0 b=Z):∀B r,v<F B->(BI (Aa Ar) f b B).1=Y r->F (BI (Aa Ar) f b B).2<=M->F r<=Ar/\∀c∈r,E4 (qM M) c=Z/\(∀inv,DZ v inv c=ϴ)/\Bi (·==(v:Int)) c=0/\AP c<=wt b/\pat c=true:=by
 intro B r u h l
 have j:∀q:Int->Bool,E4 q b=true:=λq=>by
  have:=G7 (q:=q) (σ:=[]) (λx hx=>by grind) b 0 k
  grind[Ck]
 have n:inp b=true:=by
  have:=(FM [] b 0 k).2.2.2
  grind[Ck]
 have t:=KD (A7:=Aa Ar) AX f b B r h;refine⟨AB,λc d=>?_⟩;have⟨o,p⟩:=G5 f b B M (qM M) r (λi e s=>by grind) (j _) h l c d;have⟨e,_⟩:=G5 f b B M (λi=>qM M i&&!(i==(v:Int))) r (λi e s=>by grind[Bool.not_eq_true']) (j _) h l c d;have m:=λinv=>P8 (q:=λi=>qM M i&&!(i==(v:Int))) (v:=v) AD c inv e
 exact⟨o,λinv=>(m inv).1,(m Z).2,p,KE f b B r n h c d⟩
def jV {Ar M f v:Nat} {b:Ty} {B0:Ϣ} (d:A2 b=Z) (e:CJ 0 b=Z) (i:v<F B0):ExB Ar v M (wt b) B0 (qM M) (BI (Aa Ar) f b):=
 ⟨λB=>EC f b B,λB r j h k=>ua d e B r (Fu i j.length_le) h k⟩
section
variable {R:RT}
def NU {e:Nat} {k i:Int} {n:Ϝ} {a:AV} {rows:Ϯ} (f:BN a rows) {s:AY} {QR:QT} (b:Bool) (hb:(k==0||k==2)=b) (h:ACR R 0 0 0 (.ptr e 0) (.ptr (F s.bs) 0) (.AE []) (BB Z) (AG k) (BB b) ⟨s.bs++[[AG k,SS n,AG i,a]],s.ts⟩ QR):mN R 0 0 0 (.ptr e 0) (.agg [AG k,SS n,AG i,a]) s QR:=by
 have d:=A0 s.bs [AG k,SS n,AG i,a];refine ANS (Bs (cs:=[AG k,SS n,AG i,a]) rfl (by simp[f.ok]) (AR (Ab d) (Ad (off:=0) d rfl (BE ?_))));cases j:(k==0) with
 | true=>
  simp_all
 | false=>
  simp_all
def AAA {e ml Ar:Nat} {T:Ty} {k i:Int} {n:Ϝ} {ts:Ϣ} (f:ren T=.mk k n i ts) (j:(k==0||k==2)=Z) {a:AV} (b:BN a (Aj ts)) {s:AY} {d:AV} (m:s.bs[e]?=Y [d,AG ml]) {QR:QT} (hF:D0 ml Ar (bif Aa Ar 1 then G else Y [T])) (h:∀w,yu w (bif Aa Ar 1 then G else Y [T])->QR w ⟨s.bs++[[AG k,SS n,AG i,a]],s.ts⟩):mN R 0 0 0 (.ptr e 0) (.agg [AG k,SS n,AG i,a]) s QR:=by
 have o:=A0 s.bs [AG k,SS n,AG i,a];have p:BX (ren T) (.agg [AG k,SS n,AG i,a]):=by rw[f]; exact⟨a,rfl,b⟩
 refine NU b Z j (dQ (BH (Ag o rfl (Eg p ?_))));exact dP (l:=[T]) (.inl (by grind[CO,Aj,A3.AE])) (Am m _) hF h
def AAB {e:Nat} {k i:Int} {n:Ϝ} {a:AV} {rows:Ϯ} (b:BN a rows) {s:AY} {QR:QT} (j:k≠0) (m:k≠2) (o:k≠3) (p:k≠4) (r:k≠6) {d:AV} {ml Ar:Nat} (hF:D0 ml Ar (Y ([]:Ϣ))) (f:s.bs[e]?=Y [d,AG ml]) (h:∀w,yu w (Y [])->QR w ⟨s.bs++[[AG k,SS n,AG i,a]],s.ts⟩):mN R 0 0 0 (.ptr e 0) (.agg [AG k,SS n,AG i,a]) s QR:=by
 have t:(k==0)=false:=AB;have u:(k==2)=false:=AB;have e3:(k==3)=false:=AB;have e4:(k==4)=false:=AB;have e6:(k==6)=false:=AB;refine NU b ϴ AB (dQ (A4 (BE ?_)));rw[e4];refine A4 (BE ?_);rw[e3];refine A4 (BE ?_);rw[e6];refine A4 ?_;exact dP (l:=[]) (.inl (by grind[CO,Aj,A3.AE])) (Am f _) (Ar:=Ar) AB AB
end
def dR (Ar:Nat) (ex:Ty->Ϣ->FT) (b body:Ty) (B:Ϣ):FT:=match ex (sub (F B) 0 body) (B++[b]) with
 | (G,d)=>(G,d)
 | (Y l,d)=>match Ce (Aa Ar) (Bw (Aa Ar) (ex b) (F B)) l [] d with
  | (G,e)=>(G,e)
  | (Y f,e)=>(bif Aa Ar (F f) then G else Y f,e)
section
variable {R:RT}
def pJ (hn:Mm R) {e ml Ar M f:Nat} (ν:Ar<2 ^ 20) (hM:M<2 ^ 37) {b j:Ty} {σ:Ϟ} (ς:A2 b=Z) (a0:CJ 0 b=Z) (Q:A2 j=Z) (hc:CJ (1+F σ) j=Z) (hsz:AP j<2 ^ 38)
  {B:Ϣ} {S:Nat} (ω:S<2 ^ 37) (γ:∀l,(BI (Aa Ar) f (inst (F B::σ) 0 j) (B++[b])).1=Y l->∀t∈l,AP t+Bi (·==(F B:Int)) t*wt b<=S) (hσ:∀x∈σ,x<F B)
  (a1:∀(B:Ϣ),F (BI (Aa Ar) f b B).2<=M->D0 ml Ar (BI (Aa Ar) f b B).1->∀x,BX (ren b) x->∀s,BM s->V4 R e ml 44 [x] (BI (Aa Ar) f b B) B s)
  (δ:F (BI (Aa Ar) f (inst (F B::σ) 0 j) (B++[b])).2<=M->D0 ml Ar (BI (Aa Ar) f (inst (F B::σ) 0 j) (B++[b])).1->∀x,BX (ren (inst (F B::σ) 0 j)) x->∀s,BM s->V4 R e ml 44 [x] (BI (Aa Ar) f (inst (F B::σ) 0 j) (B++[b])) (B++[b]) s)
  (a2:F (dR Ar (BI (Aa Ar) f) b (inst σ 1 j) B).2<=M) (hF:D0 ml Ar (dR Ar (BI (Aa Ar) f) b (inst σ 1 j) B).1) {n:Ϝ} {i:Int} {x:AV} (hx:BX (ren (.mk 6 n i [b,inst σ 1 j])) x) {s:AY} (hs:BM s):V4 R e ml 44 [x] (dR Ar (BI (Aa Ar) f) b (inst σ 1 j) B) B s:=by
 intro L d a4 a6 Γ θ;have le:=(BJ.1 Γ).1;have same:s.bs.set e [d,AG ml]=s.bs:=by grind[List.set_getElem_self]
 have ξ:sub (F B) 0 (inst σ 1 j)=inst (F B::σ) 0 j:=J9 (F B) σ j 0 Q AA;have Λ:ren (.mk 6 n i [b,inst σ 1 j])=.mk 6 n i [b,ren (inst σ 1 j)]:=by grind[HF,CO,IU]
 have a7:=hx;rw[Λ] at hx;obtain⟨a,rfl,N⟩:=hx;have⟨_,_,a8⟩:=a7.cells;generalize k:dR Ar (BI (Aa Ar) f) b (inst σ 1 j) B=o at a2 hF ⊢;rw[dR,ξ] at k;have ε:=EC (A7:=Aa Ar) f (inst (F B::σ) 0 j) (B++[b]);have O:=G5 (A7:=Aa Ar) f (inst (F B::σ) 0 j) (B++[b]) M (qM M);have α:=KE (A7:=Aa Ar) f (inst (F B::σ) 0 j) (B++[b]);have ο:=KD (A7:=Aa Ar) AX f (inst (F B::σ) 0 j) (B++[b]);have⟨z1,z2,z3,z4⟩:=FM (F B::σ) j 0 Q;rw[z3] at O;have htam:E4 (λi=>qM M i&&decide (i<(F (B++[b]):Nat))) (inst (F B::σ) 0 j)=Z->True:=λ_=>trivial
 rcases hg:BI (Aa Ar) f (inst (F B::σ) 0 j) (B++[b]) with ⟨r,A⟩
 rw[hg] at k δ ε O α ο γ;simp only at k δ ε O α ο γ;have hcp:∀l,A<+:(Ce (Aa Ar) (Bw (Aa Ar) (BI (Aa Ar) f b) (F B)) l [] A).2:=λl=>G6 (λc B=>HU (λB=>EC f b B) _ c B) l [] A
 have π:F A<=M:=AB
 have a9:D0 ml Ar r:=by
  cases r with
  | none=>
   rw[<-k] at hF;exact hF
  | some r=>exact hF.some _
 have hBl:F B+1<=F A:=AB;refine m44 AX ?_;rw[a4,a6];have T:=A0 s.bs [AG 6,SS n,AG i,a];have m:=Am Γ [AG 6,SS n,AG i,a];have hT:(s.bs++[[AG 6,SS n,AG i,a]]).take (F s.bs)=s.bs.set e [d,AG ml]:=AB;have τ:BM ⟨s.bs++[[AG 6,SS n,AG i,a]],s.ts⟩:=BM.app (s:=s) hs (a8 _);refine NU N ϴ rfl (dQ (A4 (BE (A4 (BE (A4 (BE (BH ?_))))))));generalize s.bs++[[AG 6,SS n,AG i,a]]=E at T m hT τ;have hZ:BX (.mk 0 [] 0 []) (.agg [(AG 0),(SS []),(AG 0),(.AE [])]):=⟨.AE [],rfl,.inl (.AE _)⟩;refine DK (Ab m) (AR (Ab m) (Ad (off:=0) m rfl (Au (n:=F B) (by rw[θ.BA.BG,Ae]) (DK (Ab m) (AR (Ab m) (Ad (off:=0) m rfl (AR (Ab T) (Ad (off:=3) T rfl ?_))))))));refine Bc N (row:=Av b) AA rfl (Aq _) AA (Cd (Au (n:=F B) (by rw[θ.BA.BG,Ae]) (Eg hZ ⟨⟨rfl,rfl,rfl,AH⟩,AGn θ rfl AA λu C U w2=>?_⟩)));refine DK (Ab m) (AR (Ab m) (C1 m AD U.BA.cells (AO _) U.BA.ok (.inl (AO _)) ?_));have Ξ:[d,AG ml].set 0 u=[u,AG ml]:=rfl;rw[Ξ];have b0:e≠F s.bs:=AA;have ζ:(E.set e [u,AG ml])[e]?=Y [u,AG ml]:=BT m;have I:(E.set e [u,AG ml])[F s.bs]?=Y [AG 6,SS n,AG i,a]:=BR T b0;have b1:(E.set e [u,AG ml]).take (F s.bs)=s.bs.set e [u,AG ml]:=by grind[Ep]
 have β:BM ⟨E.set e [u,AG ml],C⟩:=BM.set (s:=⟨E,s.ts⟩) τ (by simp[Ap,A6,U.BA.A6]) _;generalize E.set e [u,AG ml]=p at ζ I b1 β;refine AR (Ab I) (Ad (off:=3) I rfl (Bc N (row:=Av (ren (inst σ 1 j))) AA rfl (Aq _) AA (Cd ?_)));refine AI (Le hn (F B) AA) ?_;rintro _ rfl;have b3:Ez (2 ^ 40) (inst σ 1 j)=true:=by grind[F8,G7]
 have Φ:AP (inst σ 1 j)<2 ^ 38:=by grind[FM]
 refine AI (SY (v:=F B) Φ b3 (Ue σ j 1 Q) (BD.Bo _)) ?_;rintro y Δ;rw[ξ] at Δ;obtain⟨w,s',⟨z,η,q1,X,q3,rfl⟩,q4⟩:=δ π a9 y Δ.Du ⟨p,C⟩ β (Co (env R) 44 0 0 0) u rfl rfl ζ U;have b4:(p.set e [z,AG ml]).take (F s.bs)=s.bs.set e [z,AG ml]:=by simp[*,Ep]
 have υ:(p.set e [z,AG ml])[e]?=Y [z,AG ml]:=BT ζ;have φ:Cx d z s.ts η:=w2.trans q3;have Ψ:BM ⟨p.set e [z,AG ml],η⟩:=BM.set (s:=⟨p,C⟩) β (by simp[Ap,A6,X.BA.A6]) _;have Θ:Tel.D9 a a=true:=BN.D9 (es:=[b,ren (inst σ 1 j)]) N;refine⟨_,_,q4,?_⟩
 have μ:∀{K:Prop} ,K->(Ex ⟨p,C⟩ (.ptr (F s.bs) 0) 3 λv=>Tel.D9 v (.ptr (F s.bs) (0+3))=Z)/\(EX (env R) ⟨p,C⟩ G (.ptr (F s.bs) (0+3)) λv=>Tel.D9 v a=Z)/\(OK ⟨p,C⟩ 4 a (AG 1) λv=>Tel.D9 v (.DF (Av (ren (inst σ 1 j))) 0)=Z)/\(EX (env R) ⟨p,C⟩ (Y 4) (.DF (Av (ren (inst σ 1 j))) 0) λv=>Tel.D9 v (.agg ((Av (ren (inst σ 1 j))).map .pv))=Z)/\K:=λhK=>
  ⟨AR (Ab I) (D8 _ _),Ad (off:=3) I rfl Θ,Bc N (row:=Av (ren (inst σ 1 j))) AA rfl (Aq _) AA (by simp[Tel.D9,Py]),Cd (NM _),hK⟩
 cases r with
 | none=>
  cases q1;simp only at k;subst k;exact B9 rfl (B9 rfl (μ (A4 (TF (FN hs b4 (X.BA.A6 _) (r:=G) rfl λw D=>⟨z,η,D,X,φ,rfl⟩)))))
 | some l=>
  obtain⟨a3,rfl,b5⟩:=q1;refine B9 rfl (B9 rfl (μ (BH ?_)));simp only at k;have b6:F l<=Ar:=AB
  have b7:=O l (λi h1 h2=>by grind) (G7 (λx hx=>by
   simp only[AK,Cu,B6,CP,CQ]
   grind) j 0 Q) rfl π
  have b8:=α l z4 rfl;have b9:(B++[b])[F B]?=Y b:=AD;have hxb:ExB Ar (F B) M (wt b) (B++[b]) (qM M) (BI (Aa Ar) f b):=jV ς a0 AD;have hrb:ren b=b:=IU b ς;have hsb:=Zi (R:=R) hn (e:=e) (S:=S) (λi hi=>by grind) ν ω hxb b9 (λB s hs' _ hM' hF'=>a1 B hM' hF' _ (by rw[hrb]; exact(BD.Bo b).Du) s hs')
  have hFk:D0 ml Ar (Ce (Aa Ar) (Bw (Aa Ar) (BI (Aa Ar) f b) (F B)) l [] A).1:=by
   rcases ι:Ce (Aa Ar) (Bw (Aa Ar) (BI (Aa Ar) f b) (F B)) l [] A with ⟨_|out,B2⟩
   .rw[ι] at k
    rw[<-k] at hF;exact hF
   .exact hF.some _
  have Ω:∀o,Ce (Aa Ar) (Bw (Aa Ar) (BI (Aa Ar) f b) (F B)) l [] A=o->F o.2<=M:=AB
  obtain⟨w4,s4,⟨H,χ,k1,k2,k3,rfl⟩,k4⟩:=mI (R:=R) hn (e:=e) (M:=M) (W:=wt b) (S:=S) (B0:=B++[b]) (q:=qM M) (λi hi=>by grind) ν ω (λB=>EC f b B) b6 b5 (λt κ=>by
   have⟨y1,y2⟩:=b7 t κ;exact⟨y1,b8 t κ,γ l rfl t κ⟩) hsb ε (Ω _ rfl) hFk Ψ (Co (env R) 44 0 0 0) z rfl rfl υ X
  have ψ:((p.set e [z,AG ml]).set e [H,AG ml]).take (F s.bs)=s.bs.set e [H,AG ml]:=by simp[*,Ep]
  have gE4:((p.set e [z,AG ml]).set e [H,AG ml])[e]?=Y [H,AG ml]:=BT υ;have ρ:=φ.trans k3;refine⟨_,_,k4,?_⟩;rcases ι:Ce (Aa Ar) (Bw (Aa Ar) (BI (Aa Ar) f b) (F B)) l [] A with ⟨ro,B2⟩
  rw[ι] at k1 k2 k;cases ro with
  | none=>
   cases k1;simp only at k;subst k;exact B9 rfl (B9 rfl (TF (FN hs ψ (k2.BA.A6 _) (r:=G) rfl λw D=>⟨H,χ,D,k2,ρ,rfl⟩)))
  | some out=>
   obtain⟨a5,rfl,ha5⟩:=k1;simp only at k;subst k;exact B9 rfl (B9 rfl (dP ha5 gE4 hF λw D=>FN hs ψ (k2.BA.A6 _) D λw D=>⟨H,χ,D,k2,ρ,rfl⟩))
end
def ex2:Ϟ->Nat
 | [_,c]=>c
 | _=>0
mutual
def lv:Ty->Nat
 | .mk k _ _ ts=>bif k==7||k==5 then 1 else bif k==3 then(lvl ts).sum else bif k==4 then(lvl ts).foldr max 0 else bif k==6 then ex2 (lvl ts) else 0
def lvl:Ϣ->Ϟ
 | []=>[]
 | t::l=>lv t::lvl l
end
theorem Zj:∀l:Ϣ,lvl l=l.map lv
 | []=>rfl
 | t::l=>by rw[lvl,Zj l]; rfl
def max_mem:∀{l:Ϟ} {n:Nat},n∈l->n<=l.foldr max 0
 | a::l,n,h=>by
  rw[List.foldr_cons];rcases BF.1 h with rfl|h
  .omega
  .have:=max_mem h
   omega
mutual
theorem TG (σ:Ϟ):∀(t:Ty) (u:Nat),A2 t=Z->lv (inst σ u t)=lv t
 | .mk k n i ts,u,b=>by
  rcases EO σ u b with ⟨rfl,rfl,rfl,d,e,⟨v,f,h3⟩|h3⟩|⟨j,h3⟩
  .rw[h3]
   rfl
  .rw[h3]
  .simp only[A2,AK] at b
   rw[h3,lv,lv,dS σ ts u k 0 b.2]
theorem dS (σ:Ϟ):∀(l:Ϣ) (u:Nat) (k:Int) (j:Nat),BO l=Z->lvl (Dg σ u k j l)=lvl l
 | [],_,_,_,_=>rfl
 | t::l,u,k,j,b=>by
  simp only[BO,AK] at b;rw[Dg,lvl,lvl,TG σ t _ b.1,dS σ l u k (j+1) b.2]
end
mutual
def dU {m q:Int->Bool} {b:Ty} (hb:Bi q b=0):∀(t:Ty) (k:Nat),Bi q (JM m b t k)<=Bi q t
 | .mk c n i ts,k=>by
  have d:=Xm (m:=m) hb ts k
  grind[JM,Bi]
def Xm {m q:Int->Bool} {b:Ty} (hb:Bi q b=0):∀(l:Ϣ) (k:Nat),Cz q (Ka m b l k)<=Cz q l
 | [],_=>AU _
 | t::l,k=>by
  rw[Ka];cases decide (k<Bi m t) with
  | true=>
   have:=dU (m:=m) hb t k
   grind[Cz]
  | false=>
   have:=Xm (m:=m) hb l (k-Bi m t)
   grind[Cz]
end
section
variable {A7:Nat->Bool}
def Xn {ex:Ϣ->FT} {q:Int->Bool} {v:Nat} (hx:∀B,F B<=F (ex B).2) {lo M:Nat} (e:∀B r,lo<=F B->(ex B).1=Y r->F (ex B).2<=M->∀c∈r,Bi q c=0) :
  ∀(f:Nat) (t:Ty) (B r:Ϣ),lo<=F B->(CT A7 ex v f t B).1=Y r->F (CT A7 ex v f t B).2<=M->∀p∈r,Bi q p<=Bi q t
 | 0,t,B,r,_,h,_=>by grind[CT]
 | f+1,t,B,r,l,h,b=>by
  have i:=hx B;have d:=e B;rw[CT] at h b;cases n:DZ v ϴ t with
  | false=>grind
  | true=>
   rw[n] at h b;simp only[AQ] at h b;rcases o:ex B with ⟨_|cs,j⟩
   .grind
   .rw[o] at h b i d
    simp only at h b i d;have C:=I4 (A7:=A7) (g:=λc B=>CT A7 ex v f (JM (·==(v:Int)) c t 0) B) (λc B=>IP hx v f _ B) cs [] j;have s:=d cs l rfl AA;refine I5 (λc B=>IP hx v f _ B) (lo:=lo) cs [] j r ?_ AA h b AD;intro c u x y k z m p A;exact BC (Xn hx e f _ x y k z m p A) (dU (s c u) t 0)
def dV:∀(f:Nat) (t:Ty) (σ:Ϟ) (B:Ϣ) (M v:Nat) (r:Ϣ),A2 t=Z->CJ (F σ) t=Z->v<F B->(∀x∈σ,x<F B) ->
  (BI A7 f (inst σ 0 t) B).1=Y r->F (BI A7 f (inst σ 0 t) B).2<=M->∀p∈r,Bi (·==(v:Int)) p<=lv t
 | 0,_,_,_,_,_,_,_,_,_,_,h,_=>by cases h
 | f+1,.mk k n i ts,σ,B,M,v,r,s,W,Θ,π,h,d=>by
  have X:=dV f;have hf:=λt B=>KC (A7:=A7) f t B
  have η:=s;simp only[A2,AK] at s
  have part:∀(z:k≠6) (O:k≠5),∀t∈ts.map (inst σ 0),∀(e r:Ϣ),F B<=F e->(BI A7 f t e).1=Y r->F (BI A7 f t e).2<=M->∀p∈r,Bi (·==(v:Int)) p<=lv t:=by
   intro z O t ρ e r A h d;obtain⟨α,D,rfl⟩:=Cw.1 ρ;rw[TG σ α 0 (CB s.2 D)];exact X α σ e M v r (CB s.2 D) (FJ z (Dq W O) D) AA (λx hx=>Fu (π x hx) A) h d
  have δ:BO ts=Z->(ts.map (inst σ 0)).map lv=ts.map lv:=by grind[List.map_congr_left,TG,CB]
  rcases EO σ 0 η with ⟨rfl,rfl,rfl,_,_,⟨x,β,h3⟩|h3⟩|⟨Ξ,h3⟩
  .rw[h3,BI] at h
   have:(7:Int)==7:=rfl;simp only[show((7:Int)==7)=Z from rfl,Dx,AQ] at h;cases hb:A7 1 with
   | true=>grind
   | false=>
    rw[hb] at h;cases h;intro p y;rw[DW.1 y,Bi,lv];simp only[show((7:Int)==7)=Z from rfl,AQ,show((5:Int)==7||(5:Int)==5)=Z from rfl];cases (x:Int)==(v:Int) <;> simp
  .rw[h3,BI] at h
   simp only[show((5:Int)==0||(5:Int)==2||(5:Int)==7)=ϴ from rfl,show((5:Int)==4)=ϴ from rfl,show((5:Int)==3)=ϴ from rfl,show((5:Int)==6)=ϴ from rfl,AL] at h;cases hb:A7 0 with
   | true=>grind
   | false=>grind
  .rw[h3,BI] at h d
   cases ς:k==0||k==2||k==7 with
   | true=>
    grind[HK,Bi]
   | false=>
    rw[ς] at h d;simp only[AL] at h d;cases H:k==4 with
    | true=>
     have z:k=4:=AB;subst z;rw[H,FI (k:=4) AH] at h d;simp only[AQ] at h d
     have m:=NJ hf (P:=λp=>Bi (·==(v:Int)) p<=lv (.mk 4 n i ts)) (lo:=F B) (M:=M) (ts.map (inst σ 0)) [] Z B (λt hm e r A h d p y=>BC (part AH AH t hm e r A h d p y) (by
      have u:lv t∈(ts.map (inst σ 0)).map lv:=EH hm;rw[δ s.2] at u;simp[*,lv,Zj,max_mem])) (AU _)
     grind
    | false=>
     rw[H] at h d;simp only[AL] at h d;cases Q:k==3 with
     | true=>
      have z:k=3:=AB;subst z;rw[Q,FI (k:=3) AH] at h d;simp only[AQ] at h d;have m:=λr=>QA hf (P:=λw p=>Bi (·==(v:Int)) p<=w) (w:=lv) (lo:=F B) (M:=M) (ts.map (inst σ 0)) [] [] B r (part AH AH) (AU _)
      rcases τ:Ey (BI A7 f) (ts.map (inst σ 0)) [] B with ⟨_|ls,C⟩
      .grind
      .rw[τ] at h d m
       simp only at h d m;cases υ:ls.any List.isEmpty with
       | true=>
        grind
       | false=>
        rw[υ] at h d;simp only[AL] at h d;cases S:Df A7 ls [[]] with
        | none=>grind
        | some all=>
         rw[S] at h d;simp only at h d;cases hb:A7 (F all) with
         | true=>grind
         | false=>
          rw[hb] at h;cases h;intro p y;obtain⟨a,I,rfl⟩:=Cw.1 y;have u:=RE (q:=(·==(v:Int))) ls _ _ all 0 (m ls rfl d Ay) S (by simp[Cz]) a I
          grind[Bi,lv,Zj]
     | false=>
      rw[Q] at h d;simp only[AL] at h d;cases θ:k==6 with
      | false=>
       grind
      | true=>
       have:k=6:=AB;subst this;rcases JN s.1 with h' | h' | h' | h' | h' | h' | ⟨_,rfl,rfl,b,j,rfl,ι⟩
       iterate 6 exact absurd h' AD
       simp only[BO,AK] at s;obtain⟨_,T,U,_⟩:=s;have φ:inst σ (0+Dz 6 0) b=b:=Ig σ b 0 T ι
       have Λ:CJ (1+F σ) j=true:=by
        have:=Dq W AH;simp only[De,AK] at this;have β:=this.2.1;rw[Nt];exact β
       have ε:sub (F B) 0 (inst σ 1 j)=inst (F B::σ) 0 j:=J9 (F B) σ j 0 U AA;have χ:inst σ (0+Dz 6 (0+1)) j=inst σ 1 j:=rfl;rw[θ] at h d;simp only[AQ,Dg,φ,ah] at h d;rw[χ,ε] at h d;have E:=KC (A7:=A7) f b
       have κ:∀e r,F B<F e->(BI A7 f b e).1=Y r->F (BI A7 f b e).2<=M->∀c∈r,Bi (·==(v:Int)) c=0:=by
        intro e r A h d c μ
        have ζ:∀q:Int->Bool,E4 q b=true:=λq=>by
         have:=G7 (q:=q) (σ:=[]) (λx hx=>by grind) b 0 T
         grind[Ck]
        have u:=G5 f b e M (λi=>!(i==(v:Int))) r (λi h3 H=>by grind) (ζ _) h d c μ;exact(P8 (q:=λi=>!(i==(v:Int))) (v:=v) AD c Z u.1).2
       have K:=λl=>X j (F B::σ) (B++[b]) M v l U AB AB (λx hx=>by
        rw[B6,CP,CQ]
        grind)
       have N:=KC (A7:=A7) f (inst (F B::σ) 0 j) (B++[b]);generalize BI A7 f (inst (F B::σ) 0 j) (B++[b])=o at h d K N;rcases o with ⟨_|l,C⟩
       .cases h
       .simp only at h d K N
        have γ:=I4 (A7:=A7) (g:=Bw A7 (BI A7 f b) (F B)) (λa e=>Js E (F B) a e) l [] C;have m:=λr=>I5 (A7:=A7) (g:=Bw A7 (BI A7 f b) (F B)) (λa e=>Js E (F B) a e) (P:=λp=>Bi (·==(v:Int)) p<=lv j) (lo:=F B+1) (M:=M) l [] C r
        generalize Ce A7 (Bw A7 (BI A7 f b) (F B)) l [] C=ψ at h d γ m;rcases ψ with ⟨_|out,Φ⟩
        .cases h
        .simp only at h d γ m
         cases hb:A7 (F out) with
         | true=>grind
         | false=>
          rw[hb] at h;cases h;have ω:lv (.mk 6 [] 0 [b,j])=lv j:=rfl;rw[ω];have ν:=K l rfl AA;refine m r ?_ AB rfl d AD;intro a I e Γ ξ u L p y;have ο:=ν a I;rw[Bw] at u L;cases Δ:DZ (F B) Z a with
          | true=>
           grind
          | false=>
           rw[Δ] at u L;exact BC (Xn E (lo:=F B+1) (M:=M) (λe r A=>κ e r AA) _ a e Γ ξ u L p y) ο
end
section
variable {A7:Nat->Bool}
theorem Uu {α:Type} {g:α->Ϣ->FT} (b:∀a B,(g a B).2=B):∀(l:List α) (out B:Ϣ),(Ce A7 g l out B).2=B
 | [],_,_=>rfl
 | a::l,out,B=>by
  have h:=b a B;rw[Ce];rcases d:g a B with ⟨_|r,e⟩
  .grind
  .rw[d] at h
   simp only at h ⊢;subst h;cases A7 (F (out++r)) with
   | true=>rfl
   | false=>exact Uu b l _ _
def ud {ex:Ϣ->FT} {a v:Nat} (b:∀B,F (ex B).2<=F B+a) (f:Nat) (hf:f<=1) (t:Ty) (B:Ϣ):F (CT A7 ex v f t B).2<=F B+a:=by
 rcases f with _|f
 all_goals grind[CT,Uu]
def dW {ex:Ϣ->FT} {a v:Nat} (d:∀B,F (ex B).2<=F B+a) (e:∀B r,(ex B).1=Y r->F r<=1):∀(f:Nat) (t:Ty) (B:Ϣ),F (CT A7 ex v f t B).2<=F B+a*f
 | 0,t,B=>by grind[CT]
 | f+1,t,B=>by
  have h:=d B;have b:=e B;rw[Sz,CT];cases DZ v ϴ t with
  | false=>simp
  | true=>
   simp only[AQ];rcases l:ex B with ⟨_|cs,i⟩
   .grind
   .rw[l] at h b
    simp only at h b ⊢;have m:=b cs rfl;rcases cs with _|⟨x,_|⟨y,cs⟩⟩
    .grind[Ce]
    .have j:=dW (v:=v) d e f (JM (·==(v:Int)) x t 0) i
     rw[Ce];rcases k:CT A7 ex v f (JM (·==(v:Int)) x t 0) i with ⟨_|r,n⟩
     .grind
     .rw[k] at j
      simp only at j ⊢;cases A7 (F ([]++r)) with
      | true=>grind
      | false=>grind[Ce]
    grind
end
def Xo {α:Type} {Ar a q K:Nat} {B0:Ϣ} {g:α->Ϣ->FT} (e:∀x B,B<+:(g x B).2):∀(l:List α) (out B:Ϣ),(∀x∈l,∀B,B0<+:B->(∀r,(g x B).1=Y r->F r=K/\F r<=Ar+1/\F (g x B).2+a<=F B+a*K)/\((g x B).1=G->F (g x B).2<=F B+q))->B0<+:B->F out<=Ar ->
  (∀r,(Ce (Aa Ar) g l out B).1=Y r->F r=F out+F l*K/\F (Ce (Aa Ar) g l out B).2+a*F l<=F B+a*(K*F l)) /\
  ((Ce (Aa Ar) g l out B).1=G->∃m,F out+m*K<=Ar/\(F (Ce (Aa Ar) g l out B).2<=F B+a*(m*K)+q\/(K<=Ar+1/\F (Ce (Aa Ar) g l out B).2<=F B+a*(m*K)+a*K)))
 | [],out,B,_,_,_=>by grind[Ce]
 | x::l,out,B,f,i,u=>by
  have b:=f x AD B i;have d:=e x B;rw[Ce];rcases j:g x B with ⟨_|r,n⟩
  .rw[j] at b
   refine⟨λr h=>(by cases h),λ_=>⟨0,AA,.inl ?_⟩⟩
   grind
  .rw[j] at b d
   have⟨z,A,e3⟩:=b.1 r rfl;simp only at e3 d ⊢;cases hb:Aa Ar (F (out++r)) with
   | true=>
    refine⟨λr h=>(by cases h),λ_=>⟨0,AA,.inr ⟨AA,?_⟩⟩⟩
    grind
   | false=>
    simp only[AL];have t:F out+F r<=Ar:=AB;have⟨C,o⟩:=Xo e l (out++r) n (λy D=>f y AB) (i.trans d) AB;refine⟨λs k=>?_,λk=>?_⟩
    .grind[Nat.mul_add]
    .have⟨m,p,E⟩:=o k
     rw[B6] at p;refine⟨m+1,AB,?_⟩
     grind
def qF (f:Nat):Nat:=f+min f 6*66
def Xp {c f:Nat} (b:2<=c) (h:c ^ f<=33):f<=5:=by
 rcases Fv f 6 with h1|h1
 .omega
 .have d:c ^ 6<=c ^ f:=Ki AA h1
  have e:2 ^ 6<=c ^ 6:=Nat.pow_le_pow_left b 6;omega
structure ExC (v a c:Nat) (B0:Ϣ) (ex:Ϣ->FT):Prop where
 pre:∀B,B<+:(ex B).2
 len:∀B,F (ex B).2<=F B+a
 res:∀B r,B0<+:B->(ex B).1=Y r->F r=c/\∀x∈r,Bi (·==(v:Int)) x=0/\DZ v Z x=ϴ/\pat x=Z
def Xq {ex:Ϣ->FT} {v a c:Nat} {B0:Ϣ} (hx:ExC v a c B0 ex) (j:2<=c):∀(f:Nat) (t:Ty) (B:Ϣ),Bi (·==(v:Int)) t=f->DZ v Z t=ϴ->pat t=Z->B0<+:B ->
  (∀r,(CT (Aa 32) ex v f t B).1=Y r->F r=c ^ f/\F r<=32+1/\F (CT (Aa 32) ex v f t B).2+a<=F B+a*c ^ f)/\((CT (Aa 32) ex v f t B).1=G->F (CT (Aa 32) ex v f t B).2<=F B+a*qF f)
 | 0,t,B,_,_,_,_=>by grind[CT]
 | f+1,t,B,U,y,z,o=>by
  have e:=λr=>RJ (Ar:=32) (ex:=ex) (v:=v) (f+1) t B r
  have p:=hx.len B;have k:=hx.res B;have l:=hx.pre B;have H:DZ v ϴ t=true:=by grind[Za]
  rw[CT,H] at e ⊢;simp only[AQ] at e ⊢
  have W:a*qF f+a<=a*qF (f+1):=by
   rw[<-Sz];refine E9 _ ?_
   grind[qF]
  rcases I:ex B with ⟨_|cs,L⟩
  .grind
  .rw[I] at p k l e
   simp only at p k l e ⊢;have⟨n,A⟩:=k cs o rfl
   have⟨M,N⟩:=Xo (Ar:=32) (a:=a) (q:=a*qF f) (K:=c ^ f) (B0:=B0) (g:=λx B=>CT (Aa 32) ex v f (JM (·==(v:Int)) x t 0) B) (λx B=>IQ hx.pre v f _ B) cs [] L (by
    intro x C O D;have⟨X,Q,S⟩:=A x C;have⟨α,β⟩:=N3 (m:=(·==(v:Int))) (b:=x) t 0 AA;exact Xq hx j f _ O AA (Zb Q t 0 y) (TB S t 0 z) D) (o.trans l) AD
   refine⟨λr h=>?_,λh=>?_⟩
   .have⟨i,d⟩:=M r h
    refine⟨?_,e r h,?_⟩
    .rw[i,n,Nr,CQ,CY,Yl]
    .have T:a*(c ^ f*F cs)=a*c ^ (f+1):=by rw[n,Nr]
     have s:a*2<=a*F cs:=E9 _ AA;omega
   .have⟨m,i,d⟩:=N h
    rw[CQ,CY] at i;have T:a*(m*c ^ f)<=a*32:=E9 _ i;rcases Nat.eq_zero_or_pos m with rfl|hm
    .rcases d with d|⟨d,γ⟩
     .omega
     .have E:=Xp j d
      have s:a*c ^ f<=a*33:=E9 _ d;have e3:a*34<=a*qF (f+1):=E9 _ (by grind[qF]);omega
    .have u:c ^ f<=33:=by
      have:1*c ^ f<=m*c ^ f:=Be _ hm;omega
     have E:=Xp j u;have e3:a*(33+qF f+33)<=a*qF (f+1):=E9 _ (by grind[qF]);rw[S0,S0] at e3;have s:a*c ^ f<=a*33:=E9 _ u;omega
def Uv:Ty->Bool
 | .mk k _ _ _=>!(k==3||k==4||k==6)
def nF (t:Ty):Nat:=bif Uv t then 1 else 33*lv t+500
def ex9:Ϟ->Ϟ->Nat
 | [b,c],[_,f]=>1+c+f*b
 | _,_=>0
mutual
def nb:Ty->Nat
 | .mk k _ _ ts=>bif k==6 then ex9 (nbl ts) (ts.map nF) else bif k==3||k==4 then(nbl ts).sum else 0
def nbl:Ϣ->Ϟ
 | []=>[]
 | t::l=>nb t::nbl l
end
theorem RL:∀l:Ϣ,nbl l=l.map nb
 | []=>rfl
 | t::l=>by rw[nbl,RL l]; rfl
def Xr {ex:Ϣ->FT} {v a c n:Nat} {B0:Ϣ} (hx:ExC v a c B0 ex) (f:2<=c):∀(l out B:Ϣ),(∀t∈l,pat t=Z/\Bi (·==(v:Int)) t<=n)->B0<+:B->F out<=32 ->
  (∀r,(Ce (Aa 32) (Bw (Aa 32) ex v) l out B).1=Y r->F (Ce (Aa 32) (Bw (Aa 32) ex v) l out B).2+a*F out<=F B+a*F r/\F r<=32) /\
  ((Ce (Aa 32) (Bw (Aa 32) ex v) l out B).1=G->F (Ce (Aa 32) (Bw (Aa 32) ex v) l out B).2+a*F out<=F B+a*(n+461))
 | [],out,B,_,_,i=>by grind[Ce]
 | t::l,out,B,j,k,i=>by
  have⟨o,D⟩:=j t AD;have d:=HU (A7:=Aa 32) hx.pre v t B;have A:a*F out<=a*32:=E9 _ i
  have b:(∀r,(Bw (Aa 32) ex v t B).1=Y r->F r<=33/\F (Bw (Aa 32) ex v t B).2<=F B+a*F r)/\((Bw (Aa 32) ex v t B).1=G->F (Bw (Aa 32) ex v t B).2<=F B+a*(n+396)):=by
   rw[Bw];cases m:DZ v Z t with
   | true=>
    simp
   | false=>
    simp only[AL];have⟨E,p⟩:=Xq hx f _ t B rfl m o k;refine⟨λr h=>?_,λh=>?_⟩
    .grind
    .have:=p h
     have e:a*qF (Bi (·==(v:Int)) t)<=a*(n+396):=E9 _ (by grind[qF]);omega
  rw[S0] at b ⊢;rw[Ce];rcases s:Bw (Aa 32) ex v t B with ⟨_|r,u⟩
  .grind
  .rw[s] at b d
   have⟨k1,k2⟩:=b.1 r rfl;simp only at k2 d ⊢;have C:a*F r<=a*33:=E9 _ k1;cases hb:Aa 32 (F (out++r)) with
   | true=>
    grind
   | false=>
    simp only[AL];have⟨x,z⟩:=Xr hx f l (out++r) u (λy H=>j y AB) (k.trans d) AB;rw[B6,S0] at x z
    grind
def dX {ex:Ϣ->FT} {v a n:Nat} (d:∀B,F (ex B).2<=F B+a) (f:∀B r,(ex B).1=Y r->F r<=1):∀(l out B:Ϣ),(∀t∈l,Bi (·==(v:Int)) t<=n) ->
  F (Ce (Aa 32) (Bw (Aa 32) ex v) l out B).2<=F B+a*n*F l
 | [],out,B,_=>by grind[Ce]
 | t::l,out,B,i=>by
  have j:=i t AD
  have b:F (Bw (Aa 32) ex v t B).2<=F B+a*n:=by
   rw[Bw];cases DZ v Z t with
   | true=>simp
   | false=>
    have:=dW (A7:=Aa 32) (v:=v) d f (Bi (·==(v:Int)) t) t B;have e:a*Bi (·==(v:Int)) t<=a*n:=E9 _ j
    grind
  rw[Ce,CP,Sz];rcases k:Bw (Aa 32) ex v t B with ⟨_|r,m⟩
  .grind
  .rw[k] at b
   simp only at b ⊢;cases Aa 32 (F (out++r)) with
   | true=>grind
   | false=>
    have:=dX d f l (out++r) m (λy o=>i y AB)
    grind
def ue {ex:Ϣ->FT} {v a:Nat} (e:∀B,F (ex B).2<=F B+a) {l:Ϣ} (f:F l<=1) (b:∀t∈l,Bi (·==(v:Int)) t<=1) (B:Ϣ):F (Ce (Aa 32) (Bw (Aa 32) ex v) l [] B).2<=F B+a:=by
 rcases l with _|⟨t,_|⟨u,l⟩⟩
 .grind[Ce]
 .have i:=b t AD
  have d:F (Bw (Aa 32) ex v t B).2<=F B+a:=by
   rw[Bw];cases DZ v Z t with
   | true=>simp
   | false=>simp[*,ud]
  grind[Ce]
 grind
def pK {b:Ty} {f:Nat} (k:A2 b=Z) (m:CJ 0 b=Z) (hs:CG (bw b)):(∀B,(BI (Aa 32) f b B).1=G)\/∃c,∀B r,(BI (Aa 32) f b B).1=Y r->F r=c:=by
 have h:=MM (A7:=Aa 32) rfl rfl f b [] k m EI hs
 have e:∀B,La (λi b p=>∃φ,Rl ϴ 0 i (F B) (F i) [] b p φ) B (DR (Aa 32) f b) (BI (Aa 32) f b B):=by
  intro B;have:=h B (λx hx=>by grind)
  grind[Ck]
 cases hb:DR (Aa 32) f b with
 | none=>
  left
  intro B;have:=e B;rw[hb] at this;rcases d:BI (Aa 32) f b B with ⟨_|r,n⟩
  .rfl
  .rw[d] at this
   exact this.elim
 | some l=>
  right
  refine⟨F l,λB r j=>?_⟩;have:=e B;rw[hb] at this;rcases d:BI (Aa 32) f b B with ⟨_|r',n⟩
  .grind
  .rw[d] at j this
   cases j;exact this.2.tP.symm
def Zk {ex:Ty->Ϣ->FT} {n:Ty->Nat} {lo:Nat}:∀(l out:Ϣ) (ok:Bool) (B:Ϣ),(∀t∈l,∀b,lo<=F b->F b<=F (ex t b).2/\F (ex t b).2<=F b+n t)->lo<=F B->F (G1 ex l out ok B).2<=F B+(l.map n).sum
 | [],_,_,B,_,_=>Ni _ _
 | t::l,out,ok,B,h,j=>by
  have⟨d,e⟩:=h t AD B j;rw[G1,CH,Ke];rcases f:ex t B with ⟨_|r,i⟩
  .rw[f] at e d
   simp only at e d ⊢;have:=Zk l out ϴ i (λa k=>h a AB) AA;omega
  .rw[f] at e d
   simp only at e d ⊢;have:=Zk l (out++r) ok i (λa k=>h a AB) AA;omega
def mO {ex:Ty->Ϣ->FT} {n:Ty->Nat} {lo:Nat}:∀(l:Ϣ) (out:List Ϣ) (B:Ϣ),(∀t∈l,∀b,lo<=F b->F b<=F (ex t b).2/\F (ex t b).2<=F b+n t)->lo<=F B->F (Ey ex l out B).2<=F B+(l.map n).sum
 | [],_,B,_,_=>Ni _ _
 | t::l,out,B,h,f=>by
  have⟨d,e⟩:=h t AD B f;rw[Ey,CH,Ke];rcases i:ex t B with ⟨_|r,j⟩
  .grind
  .rw[i] at e d
   simp only at e d ⊢;have:=mO l (out++[r]) j (λa k=>h a AB) AA;omega
theorem DE {a b:Nat} (h:CG b) (d:a<=b):CG a:=by grind[CG]
def AAD (σ:Ϟ) (t:Ty) (u:Nat) (b:A2 t=Z):nF (inst σ u t)=nF t:=by
 have h:=TG σ t u b
 have:Uv (inst σ u t)=Uv t:=by
  obtain⟨k,n,i,ts⟩:=t;rcases EO σ u b with ⟨rfl,rfl,rfl,d,e,⟨v,f,h3⟩|h3⟩|⟨j,h3⟩ <;> rw[h3] <;> rfl
 grind[nF]
mutual
theorem Zl (σ:Ϟ):∀(t:Ty) (u:Nat),A2 t=Z->nb (inst σ u t)=nb t
 | .mk k n i ts,u,b=>by
  rcases EO σ u b with ⟨rfl,rfl,rfl,d,e,⟨v,f,h3⟩|h3⟩|⟨j,h3⟩
  .rw[h3]
   rfl
  .rw[h3]
  .simp only[A2,AK] at b
   have⟨l,m⟩:=dY σ ts u k 0 b.2
   grind[nb]
theorem dY (σ:Ϟ):∀(l:Ϣ) (u:Nat) (k:Int) (j:Nat),BO l=Z->nbl (Dg σ u k j l)=nbl l/\(Dg σ u k j l).map nF=l.map nF
 | [],_,_,_,_=>⟨rfl,rfl⟩
 | t::l,u,k,j,b=>by
  simp only[BO,AK] at b;have⟨d,e⟩:=dY σ l u k (j+1) b.2;rw[Dg,nbl,nbl,Zl σ t _ b.1,d,CH,CH,AAD σ t _ b.1,e];simp
end
def AAE {f:Nat} {b:Ty} {v:Nat} {B0:Ϣ} (e:A2 b=Z) (i:CJ 0 b=Z) (hs:CG (bw b)) (o:v<F B0) (j:∀B,F (BI (Aa 32) f b B).2<=F B+nb b) {l:Ϣ} (p:F l<=32) {n:Nat} (hn:∀t∈l,pat t=Z/\Bi (·==(v:Int)) t<=n) {B:Ϣ} (d:B0<+:B) :
  F (Ce (Aa 32) (Bw (Aa 32) (BI (Aa 32) f b) v) l [] B).2<=F B+(33*n+500)*nb b:=by
 have A:(∀B r,(BI (Aa 32) f b B).1=Y r->F r<=1)->F (Ce (Aa 32) (Bw (Aa 32) (BI (Aa 32) f b) v) l [] B).2<=F B+(33*n+500)*nb b:=by
  intro h;have h1:=dX (v:=v) (n:=n) j h l [] B (λt s=>(hn t s).2);have u:nb b*n*F l<=nb b*n*32:=E9 _ p
  grind
 rcases pK (f:=f) e i hs with h|⟨c,h⟩
 .grind
 .rcases Fv c 2 with h1|h1
  .grind
  .have hx:ExC v (nb b) c B0 (BI (Aa 32) f b):=by
    refine⟨λB=>EC f b B,j,λB r d k=>⟨h B r k,λx hx=>?_⟩⟩;have⟨_,u⟩:=(jV (Ar:=32) (M:=F (BI (Aa 32) f b B).2) (f:=f) e i o).res B r d k (AU _)
    grind
   have⟨m,y⟩:=Xr hx h1 (n:=n) l [] B hn d AD;simp only[CQ,Nat.mul_zero,G8] at m y;rw[Yl (33*n+500)];cases z:(Ce (Aa 32) (Bw (Aa 32) (BI (Aa 32) f b) v) l [] B).1 with
   | none=>
    grind
   | some r=>
    have⟨C,D⟩:=m r z
    grind[Nat.mul_le_mul_left,Nat.le_trans]
def TH:∀(f:Nat) (t:Ty) (σ:Ϟ) (B:Ϣ),A2 t=Z->CJ (F σ) t=Z->CG (bw t)->(∀x∈σ,x<F B)->F (BI (Aa 32) f (inst σ 0 t) B).2<=F B+nb t:=by
 intro f
 induction f with
 | zero=>
  grind[BI]
 | succ f O=>
  intro t σ B m δ A ρ;obtain⟨k,n,i,ts⟩:=t;have hf:=λt B=>KC (A7:=Aa 32) f t B
  have ν:=m;simp only[A2,AK] at m
  have part:∀(r:k≠6) (U:k≠5),(∀t∈ts,CG (bw t))->∀t∈ts.map (inst σ 0),∀e:Ϣ,F B<=F e->F e<=F (BI (Aa 32) f t e).2/\F (BI (Aa 32) f t e).2<=F e+nb t:=by
   intro r U s t j e C;obtain⟨Q,y,rfl⟩:=Cw.1 j;rw[Zl σ Q 0 (CB m.2 y)];exact⟨hf _ e,O Q σ e (CB m.2 y) (FJ r (Dq δ U) y) (s Q y) (λx hx=>Fu (ρ x hx) C)⟩
  have θ:(ts.map (inst σ 0)).map nb=ts.map nb:=by grind[List.map_congr_left,Zl,CB]
  rcases EO σ 0 ν with ⟨rfl,rfl,rfl,_,_,⟨x,ε,h3⟩|h3⟩|⟨a0,h3⟩
  .grind[BI]
  .grind[BI]
  .rw[h3,BI]
   cases a1:k==0||k==2||k==7 with
   | true=>simp
   | false=>
    simp only[AL];cases a2:k==4 with
    | true=>
     have r:k=4:=AB;subst r;have s:∀t∈ts,CG (bw t):=λt j=>DE A (by simp[*,bw,Fp,EM,EH])
     have:=Zk (ex:=BI (Aa 32) f) (n:=nb) (lo:=F B) (ts.map (inst σ 0)) [] Z B (part AH AH s) (AU _)
     grind[FI,nb,RL]
    | false=>
     simp only[AL];cases Ξ:k==3 with
     | true=>
      have r:k=3:=AB;subst r;have s:∀t∈ts,CG (bw t):=λt j=>DE A (by simp[*,bw,Fp,EM,EH])
      have:=mO (ex:=BI (Aa 32) f) (n:=nb) (lo:=F B) (ts.map (inst σ 0)) [] B (part AH AH s) (AU _);rw[θ] at this;rw[FI (k:=3) AH,nb,RL];simp only[AQ];generalize Ey (BI (Aa 32) f) (ts.map (inst σ 0)) [] B=o at this ⊢;rcases o with ⟨_|ls,p⟩
      .grind
      .simp only
       cases ls.any List.isEmpty with
       | true=>grind
       | false=>
        grind
     | false=>
      simp only[AL];cases Φ:k==6 with
      | false=>simp
      | true=>
       have:k=6:=AB;subst this;rcases JN m.1 with h' | h' | h' | h' | h' | h' | ⟨_,rfl,rfl,b,d,rfl,D⟩
       iterate 6 exact absurd h' AD
       simp only[BO,AK] at m;obtain⟨_,E,u,_⟩:=m;have ς:inst σ (0+Dz 6 0) b=b:=Ig σ b 0 E D
       have Ψ:CJ (1+F σ) d=true:=by
        have:=Dq δ AH;simp only[De,AK] at this;have ε:=this.2.1;rw[Nt];exact ε
       have ι:sub (F B) 0 (inst σ 1 d)=inst (F B::σ) 0 d:=J9 (F B) σ d 0 u AA;have τ:inst σ (0+Dz 6 (0+1)) d=inst σ 1 d:=rfl;simp only[AQ,Dg,ς,ah];rw[τ,ι];have Ω:bw (.mk 6 [] 0 [b,d])=bw d+1+(cv d+1)*bw b:=rfl;have W:CG (bw b):=DE A AB;have ξ:CG (bw d):=DE A AA
       have X:∀e,F (BI (Aa 32) f b e).2<=F e+nb b:=λe=>by
        have:=O b [] e E D W (λx hx=>by grind)
        grind[Ck]
       have α:∀x∈F B::σ,x<F (B++[b]):=λx hx=>by grind
       have T:CJ (F (F B::σ)) d=true:=AB;have H:=O d (F B::σ) (B++[b]) u T ξ α;rw[B6,CP,CQ] at H;have ο:nb (.mk 6 [] 0 [b,d])=1+nb d+nF d*nb b:=rfl;rw[ο];have I:=EC (A7:=Aa 32) f (inst (F B::σ) 0 d) (B++[b]);have z:=λM l=>dV (A7:=Aa 32) f d (F B::σ) (B++[b]) M (F B) l u T AD α
       have K:=λl=>KE (A7:=Aa 32) f (inst (F B::σ) 0 d) (B++[b]) l (FM (F B::σ) d 0 u).2.2.2
       have β:=λl=>KD (A7:=Aa 32) AX f (inst (F B::σ) 0 d) (B++[b]) l
       have L:Uv d=Z->∀l,(BI (Aa 32) f (inst (F B::σ) 0 d) (B++[b])).1=Y l->F l<=1/\lv d<=1:=by
        intro C l S;obtain⟨υ,φ,χ,π⟩:=d;simp only[Uv,Lx,HC] at C;obtain⟨⟨a3,a4⟩,a5⟩:=C;refine⟨?_,?_⟩
        .cases f with
         | zero=>cases S
         | succ f=>
          obtain⟨k2,ζ,η,γ,ψ,ω,Γ,Δ⟩:∃k2 ζ η γ,inst (F B::σ) 0 (.mk υ φ χ π)=.mk k2 ζ η γ/\(k2==3)=ϴ/\(k2==4)=ϴ/\(k2==6)=false:=by
           rcases EO (F B::σ) 0 u with ⟨rfl,rfl,rfl,_,_,⟨x,_,h3⟩|h3⟩|⟨_,h3⟩
           all_goals grind
          rw[ψ,BI,ω,Γ,Δ] at S;simp only[AL] at S;cases a6:k2==0||k2==2||k2==7 with
          | true=>
           grind
          | false=>
           grind
        grind[lv]
       generalize BI (Aa 32) f (inst (F B::σ) 0 d) (B++[b])=o at H I z K β L ⊢;rcases o with ⟨_|l,p⟩
       .grind
       .simp only at H I z K β L ⊢
        have κ:F l<=32:=AB
        have μ:F (Ce (Aa 32) (Bw (Aa 32) (BI (Aa 32) f b) (F B)) l [] p).2<=F p+nF d*nb b:=by
         cases N:Uv d with
         | true=>
          have⟨q1,Θ⟩:=L N l rfl;rw[nF,N];have:=ue (v:=F B) X q1 (λt j=>BC (z (F p) l rfl (AU _) t j) Θ) p
          grind
         | false=>
          rw[nF,N];exact AAE E D W (B0:=B++[b]) AD X κ (λt j=>⟨K l rfl t j,z (F p) l rfl (AU _) t j⟩) I
        generalize Ce (Aa 32) (Bw (Aa 32) (BI (Aa 32) f b) (F B)) l [] p=Λ at μ ⊢;rcases Λ with ⟨_|out,a7⟩
        all_goals grind
def Et:∀{l:Ϣ} {a:Ty},a∈l->Al a<=Cp l
 | b::l,a,h=>by
  simp only[Cp];rcases BF.1 h with rfl|h
  .omega
  .have:=Et h
   omega
def AAF {Ar f:Nat} {d:Ty} (j:A2 d=Z) {σ:Ϟ} (k:CJ (1+F σ) d=Z) (b:Ty) (B:Ϣ):F (BI (Aa Ar) f (inst (F B::σ) 0 d) (B++[b])).2<=F (dR Ar (BI (Aa Ar) f) b (inst σ 1 d) B).2:=by
 have i:sub (F B) 0 (inst σ 1 d)=inst (F B::σ) 0 d:=J9 (F B) σ d 0 j AA;rw[dR,i];rcases BI (Aa Ar) f (inst (F B::σ) 0 d) (B++[b]) with ⟨_|l,e⟩
 .exact AU _
 .have:=(G6 (A7:=Aa Ar) (g:=Bw (Aa Ar) (BI (Aa Ar) f b) (F B)) (λc B=>HU (λB=>EC f b B) _ c B) l [] e).length_le
  simp only;rcases m:Ce (Aa Ar) (Bw (Aa Ar) (BI (Aa Ar) f b) (F B)) l [] e with ⟨_|o,n⟩
  .grind
  .grind
section
variable {R:RT}
def uf {e ml Ar M f:Nat} (I:Ar<2 ^ 20) {n:Ϝ} {i:Int} {ts:Ϣ} (U:F ts<2 ^ 36) {B:Ϣ}
  (W:∀t∈ts,∀j,B<+:j->F (BI (Aa Ar) f t j).2<=M->D0 ml Ar (BI (Aa Ar) f t j).1->∀x,BX (ren t) x->∀s,BM s->V4 R e ml 44 [x] (BI (Aa Ar) f t j) j s)
  (X:F (KG Ar (BI (Aa Ar) f) ts B).2<=M) (hF:D0 ml Ar (match (KG Ar (BI (Aa Ar) f) ts B).1 with
   | none=>G
   | some l=>bif Aa Ar (F l) then G else Y l)) {x:AV} (hx:BX (ren (.mk 3 n i ts)) x) {s:AY} (hs:BM s):V4 R e ml 44 [x] ((match (KG Ar (BI (Aa Ar) f) ts B).1 with
   | none=>G
   | some l=>bif Aa Ar (F l) then G else Y l),(KG Ar (BI (Aa Ar) f) ts B).2) B s:=by
 intro L d K N C α;have le:=(BJ.1 C).1;have δ:s.bs.set e [d,AG ml]=s.bs:=by grind[List.set_getElem_self]
 have O:=hx;rw[HF _ _ _ _ AH] at hx;obtain⟨a,rfl,D⟩:=hx;have⟨_,_,Q⟩:=O.cells;refine m44 AX ?_;rw[K,N];have p:=A0 s.bs [AG 3,SS n,AG i,a];have u:=Am C [AG 3,SS n,AG i,a];have β:(s.bs++[[AG 3,SS n,AG i,a]]).take (F s.bs)=s.bs.set e [d,AG ml]:=AB;have y:BM ⟨s.bs++[[AG 3,SS n,AG i,a]],s.ts⟩:=BM.app (s:=s) hs (Q _);refine NU D ϴ rfl (dQ (A4 (BE (A4 (BE (BH ?_))))));generalize s.bs++[[AG 3,SS n,AG i,a]]=E at p u β y
 obtain⟨w,ζ,⟨b,z,q1,k,H,rfl⟩,γ⟩:=z7 (R:=R) (e:=e) I (λt B=>EC f t B) (λt _ B r h=>by grind[KD]) D U W (C5 B) X (by
  cases h:(KG Ar (BI (Aa Ar) f) ts B).1 with
  | none=>
   rw[h] at hF;exact hF.none _
  | some l=>exact hF.some _) y (Co (env R) 44 0 0 0) d rfl rfl u α
 have A:(E.set e [b,AG ml]).take (F s.bs)=s.bs.set e [b,AG ml]:=by grind[Ep]
 have S:(E.set e [b,AG ml])[e]?=Y [b,AG ml]:=BT u;refine AR (Ab p) (Ad (off:=3) p rfl ⟨_,_,γ,?_⟩);generalize KG Ar (BI (Aa Ar) f) ts B=o at q1 k hF;obtain⟨r,η⟩:=o;cases r with
 | none=>
  cases q1;exact B9 rfl (B9 rfl (TF (FN hs A (k.BA.A6 _) (r:=G) rfl λw m=>⟨b,z,m,k,H,rfl⟩)))
 | some ε=>
  obtain⟨θ,rfl,T⟩:=q1;exact B9 rfl (B9 rfl (dP T S hF λw m=>FN hs A (k.BA.A6 _) m λw m=>⟨b,z,m,k,H,rfl⟩))
def ug {e ml Ar M f:Nat} {n:Ϝ} {i:Int} {ts:Ϣ} (T:F ts*Ar<2 ^ 38) (I:F ts<2 ^ 38) {B:Ϣ}
  (U:∀t∈ts,∀b,B<+:b->F (BI (Aa Ar) f t b).2<=M->D0 ml Ar (BI (Aa Ar) f t b).1->∀x,BX (ren t) x->∀s,BM s->V4 R e ml 44 [x] (BI (Aa Ar) f t b) b s)
  {out:Ϣ} {ok:Bool} {k:Ϣ} (ζ:G1 (BI (Aa Ar) f) ts [] Z B=((out,ok),k)) (W:F k<=M) (hF:D0 ml Ar (bif ok&&!Aa Ar (F out) then Y out else G)) {x:AV} (hx:BX (ren (.mk 4 n i ts)) x) {s:AY} (hs:BM s):V4 R e ml 44 [x] ((bif ok&&!Aa Ar (F out) then Y out else G),k) B s:=by
 intro L d K N D X;have le:=(BJ.1 D).1;have δ:s.bs.set e [d,AG ml]=s.bs:=by grind[List.set_getElem_self]
 have O:=hx;rw[HF _ _ _ _ AH] at hx;obtain⟨a,rfl,p⟩:=hx;have⟨_,_,Q⟩:=O.cells;refine m44 AX ?_;rw[K,N];have u:=A0 s.bs [AG 4,SS n,AG i,a];have α:=Am D [AG 4,SS n,AG i,a];have E:(s.bs++[[AG 4,SS n,AG i,a]]).take (F s.bs)=s.bs.set e [d,AG ml]:=AB;have z:BM ⟨s.bs++[[AG 4,SS n,AG i,a]],s.ts⟩:=BM.app (s:=s) hs (Q _);refine NU p ϴ rfl (dQ (A4 (BE (BH ?_))));have A:F s.bs<=F (s.bs++[[AG 4,SS n,AG i,a]]):=AD;generalize s.bs++[[AG 4,SS n,AG i,a]]=β at u α E z A;refine AR (Ab u) (Ad (off:=3) u rfl (Au (n:=F ts) (by rw[p.BG,Ae,Bx,Bj]) ?_))
 refine z8 (R:=R) (M:=M) (λt B=>EC f t B) (λt _ B r h=>by grind[KD]) p T I U le (o:=((out,ok),k)) W (by
  cases ok with
  | false=>exact hF.none _
  | true=>exact hF.some _) ?_ (F ts) 0 [] Z B β s.ts d (.AE []) AA AB (C5 B) AD z E A X (.inl rfl) (Cx.refl _ _) (Dt.AE _ _) (SZ.AE _ _)
 intro γ tk y acc ε m j C H;have S:γ[e]?=Y [y,AG ml]:=CN m (by rw[Cv le]);cases ok with
 | false=>exact TF (FN hs m (j.BA.A6 _) (r:=G) rfl λw l=>⟨y,tk,l,j,C,rfl⟩)
 | true=>
  refine dP H S (by cases hb:Aa Ar (F out) <;> simpa[hb] using hF) λw l=>FN hs m (j.BA.A6 _) l λw l=>⟨y,tk,?_,j,C,rfl⟩
  grind
def I8 (hn:Mm R) {e ml Ar M:Nat} (b1:1<=Ar) (δ:Ar<2 ^ 20) (a3:M<2 ^ 37):∀(f:Nat) (t:Ty) (σ:Ϟ),Al t<=f->A2 t=Z->CJ (F σ) t=Z->wt t<2 ^ 37->AP t<2 ^ 18->∀(B:Ϣ),(∀x∈σ,x<F B) ->
  F (BI (Aa Ar) f (inst σ 0 t) B).2<=M->D0 ml Ar (BI (Aa Ar) f (inst σ 0 t) B).1->∀x,BX (ren (inst σ 0 t)) x->∀s,BM s->V4 R e ml 44 [x] (BI (Aa Ar) f (inst σ 0 t) B) B s:=by
 intro f
 induction f with
 | zero=>
  intro t σ z;obtain⟨k,n,i,ts⟩:=t
  grind[Al]
 | succ f ς=>
  intro t σ ε A τ m ζ B υ o hF x hx s u;have η:∀r:Ϣ,D0 ml Ar (Y r):=λr=>hF.some r
  obtain⟨k,n,i,ts⟩:=t;have Ξ:=A;simp only[A2,AK] at A;have b2:Aa Ar 0=false:=AX;have θ:Aa Ar 1=false:=AB;have a8:=EO σ 0 Ξ;simp only[Al] at ε;simp only[AP] at ζ
  have leaf:∀(T:Ty) (k' I:Int) (K:Ϝ) (D:Ϣ),ren T=.mk k' K I D->(k'==0||k'==2)=Z->∀x,BX (ren T) x->V4 R e ml 44 [x] (Y [T],B) B s:=by
   intro T k' I K D φ Q x hx L d U W X z;have Θ:s.bs.set e [d,AG ml]=s.bs:=by grind[List.set_getElem_self]
   rw[φ] at hx;obtain⟨a,rfl,α⟩:=hx;refine m44 AX ?_;rw[U,W];refine AAA φ Q α X (by rw[θ]; exact η _) λw m=>?_
   rw[θ] at m;exact FN u AB (z.BA.A6 _) m λw m=>⟨d,s.ts,m,z,Cx.refl _ _,rfl⟩
  have Λ:∀(k' I:Int) (K:Ϝ) (D:Ϣ),k'≠0->k'≠2->k'≠3->k'≠4->k'≠6->∀x,BX (.mk k' K I D) x->V4 R e ml 44 [x] (Y [],B) B s:=by
   intro k' I K D χ S a4 a5 a6 x hx L d U W X z;have Θ:s.bs.set e [d,AG ml]=s.bs:=by grind[List.set_getElem_self]
   obtain⟨a,rfl,α⟩:=hx;refine m44 AX ?_;rw[U,W];refine AAB α χ S a4 a5 a6 (η []) X λw m=>?_
   exact FN u AB (z.BA.A6 _) m λw m=>⟨d,s.ts,m,z,Cx.refl _ _,rfl⟩
  have ι:∀(Q:k≠6) (κ:k≠5),(∀t∈ts,wt t<2 ^ 37)->∀t∈ts.map (inst σ 0),∀p,B<+:p->F (BI (Aa Ar) f t p).2<=M->D0 ml Ar (BI (Aa Ar) f t p).1->∀x,BX (ren t) x->∀s,BM s->V4 R e ml 44 [x] (BI (Aa Ar) f t p) p s:=by
   intro Q κ Φ t C p Ψ μ ν x hx s u;obtain⟨ψ,E,rfl⟩:=Cw.1 C;have:=Et E;have:=FG E;exact ς ψ σ AA (CB A.2 E) (FJ Q (Dq τ κ) E) (Φ ψ E) AA p (λy ω=>Fu (υ y ω) Ψ.length_le) μ ν x hx s u
  have b3:=Bl ts;have a9:∀{l:Ϟ} {a:Nat},a∈l->a<=l.sum:=λh=>EM h
  rcases JN A.1 with ⟨rfl,rfl,rfl,rfl⟩|⟨rfl,rfl,rfl,rfl⟩|rfl|⟨rfl,rfl,rfl⟩|⟨rfl,rfl,rfl,b4⟩|⟨rfl,rfl,rfl,χ⟩|⟨rfl,rfl,rfl,b,j,rfl,ξ⟩
  .have β:BI (Aa Ar) (f+1) (inst σ 0 (.mk 0 [] 0 [])) B=(Y [inst σ 0 (.mk 0 [] 0 [])],B):=by grind[BI]
   rw[β];exact leaf _ 0 0 [] [] rfl rfl x hx
  .have β:BI (Aa Ar) (f+1) (inst σ 0 (.mk 1 [] 0 [])) B=(Y [],B):=by rfl
   rw[β];exact Λ 1 0 [] [] AH AH AH AH AH x hx
  .grind[BI,HF]
  .have N:inst σ 0 (.mk 3 [] 0 ts)=.mk 3 [] 0 (ts.map (inst σ 0)):=by grind[FI]
   rw[N] at hx o hF ⊢
   have O:BI (Aa Ar) (f+1) (.mk 3 [] 0 (ts.map (inst σ 0))) B=((match (KG Ar (BI (Aa Ar) f) (ts.map (inst σ 0)) B).1 with
     | none=>G
     | some l=>bif Aa Ar (F l) then G else Y l),(KG Ar (BI (Aa Ar) f) (ts.map (inst σ 0)) B).2):=by
    rw[BI,KG];simp only[show((3:Int)==0)=ϴ from rfl,show((3:Int)==2)=ϴ from rfl,show((3:Int)==7)=ϴ from rfl,show((3:Int)==4)=ϴ from rfl,Kf,AL,CS,AQ];rcases Ey (BI (Aa Ar) f) (ts.map (inst σ 0)) [] B with ⟨_|ls,Γ⟩
    all_goals grind
   rw[O] at o hF ⊢;refine uf δ AB (ι AH AH λt C=>?_) o hF hx u
   grind[wt,JG,List.mem_map_of_mem]
  .have N:inst σ 0 (.mk 4 [] 0 ts)=.mk 4 [] 0 (ts.map (inst σ 0)):=by grind[FI]
   rw[N] at hx o hF ⊢;rcases a7:G1 (BI (Aa Ar) f) (ts.map (inst σ 0)) [] Z B with ⟨⟨ο,ok⟩,Γ⟩
   have O:BI (Aa Ar) (f+1) (.mk 4 [] 0 (ts.map (inst σ 0))) B=((bif ok&&!Aa Ar (F ο) then Y ο else G),Γ):=by grind[BI]
   rw[O] at o hF ⊢;have b0:F ts*Ar<=F ts*2 ^ 20:=E9 _ AA;refine ug AB AB (ι AH AH λt C=>?_) a7 o hF hx u
   grind[wt,JG,List.mem_map_of_mem]
  .grind[BI,ren]
  .simp only[BO,AK] at A
   obtain⟨_,π,H,_⟩:=A;have N:inst σ 0 (.mk 6 [] 0 [b,j])=.mk 6 [] 0 [b,inst σ 1 j]:=by grind[Dg,Dz,Ig]
   have ρ:CJ (1+F σ) j=true:=by
    have:=Dq τ AH;simp only[De,AK] at this;have S:=this.2.1;rw[Nt];exact S
   rw[N] at hx o hF ⊢;have O:BI (Aa Ar) (f+1) (.mk 6 [] 0 [b,inst σ 1 j]) B=dR Ar (BI (Aa Ar) f) b (inst σ 1 j) B:=AX;rw[O] at o hF ⊢;simp only[Cp] at ε;simp only[Ak] at ζ;rw[wt] at m;simp only[CS,AQ,jI,MK,wx] at m
   have Ω:wt b<2 ^ 37/\wt j<2 ^ 37:=by
    have b5:1*wt b<=max 1 (cv j)*wt b:=Be _ AA;omega
   refine pJ hn δ a3 π ξ H ρ AA m ?_ υ ?_ ?_ o hF hx u
   .intro l Δ t C
    have a0:=EC (A7:=Aa Ar) f (inst (F B::σ) 0 j) (B++[b])
    have a1:F (BI (Aa Ar) f (inst (F B::σ) 0 j) (B++[b])).2<=M:=by
     have:=AAF (Ar:=Ar) (f:=f) H ρ b B;omega
    have a2:=a0.length_le;simp only[B6,CP,CQ] at a2;have⟨b6,b7,b8,b9⟩:=FM (F B::σ) j 0 H
    have⟨_,y2⟩:=G5 (A7:=Aa Ar) f (inst (F B::σ) 0 j) (B++[b]) M (qM M) l (λi γ S=>by grind) (G7 (λx hx=>by
     simp only[AK,Cu,B6,CP,CQ]
     grind) j 0 H) Δ a1 t C
    have γ:=ZZ (A7:=Aa Ar) f (inst (F B::σ) 0 j) (B++[b]) l Δ t C;rw[l8 _ _ _ H] at γ;have y3:Bi (·==(F B:Int)) t<=cv j:=BC (TA (λ_ _=>rfl) t) γ;have y4:Bi (·==(F B:Int)) t*wt b<=max 1 (cv j)*wt b:=Be _ AA;omega
   .intro p μ ν x hx s u
    have:=ς b [] AA π ξ Ω.1 AA p (λy ω=>by grind)
    grind[Ck]
   grind
end
def dZ:∀(n:Nat) (l:Ϛ),l.Nodup->(∀i∈l,0<=i/\i<(n:Int))->F l<=n:=by
 intro n
 induction n with
 | zero=>
  intro l _ h;cases l with
  | nil=>simp
  | cons a l=>
   have:=h a AD;omega
 | succ n b=>
  intro l hn h
  by_cases hm:(n:Int)∈l
  .have d:=b (l.erase (n:Int)) (hn.erase _) (λi e=>by grind)
   grind
  grind
def Rl.N8 {B:Ϣ} {lo d:Nat} {b:Br} {p:Ty} {φ:Ϟ} (H:Rl ϴ 0 B lo d [] b p φ):F (BQ b.AM [])<=F φ:=by
 refine dZ _ _ (GX b.AM [] EI) λi d=>?_
 rcases G3 b.AM [] i d with h|h
 .cases h
 .rcases H.vis i h with h|h|h
  all_goals grind
structure WT (t b:Ty):Prop where
 val:A2 b=Z
 cl:CJ 0 b=Z
 dep:Al b<Al t
 Gw:AP b<AP t
 jW:wt b<=wt t
 bws:bw b<=bw t
 nbs:nb b<=nb t
def AGq (t:Ty):1<=nF t:=by grind[nF]
theorem Uw {P:Ty->Prop}:∀{l:Ϣ},(∀t∈l,Ev P t)->NT P l
 | [],_=>trivial
 | t::l,h=>by
  rw[NT];exact⟨h t AD,Uw λa b=>h a AB⟩
def QJ:∀(m:Nat) (t:Ty),Al t<=m->A2 t=Z->Ev (WT t) t:=by
 intro m
 induction m with
 | zero=>
  intro t s;obtain⟨k,n,i,ts⟩:=t
  grind[Al]
 | succ m y=>
  intro t s o;obtain⟨k,n,i,ts⟩:=t;have D:=o;simp only[A2,AK] at o;simp only[Al] at s
  have up:∀d∈ts,(wt d<=wt (.mk k n i ts)/\bw d<=bw (.mk k n i ts)/\nb d<=nb (.mk k n i ts))->Ev (WT (.mk k n i ts)) d:=by
   intro d j p;have E:=Et j;have H:=FG j;refine Lj (λb hb=>?_) d (y d AA (CB o.2 j));exact⟨hb.val,hb.cl,by have:=hb.dep; grind[Al],by have:=hb.Gw; grind[AP],BC hb.jW p.1,BC hb.bws p.2.1,BC hb.nbs p.2.2⟩
  have C:∀(u:(k==6)=ϴ) (r:(k==3||k==4)=Z),∀d∈ts,wt d<=wt (.mk k n i ts)/\bw d<=bw (.mk k n i ts)/\nb d<=nb (.mk k n i ts):=by
   intro u r d j;rw[wt,bw,nb,u,r];simp only[AL,AQ,JG,Fp,RL];have p:=EM (EH (f:=wt) j);have K:=EM (EH (f:=bw) j);have L:=EM (EH (f:=nb) j);omega
  have I:∀l:Ϣ,(∀t∈l,t∈ts)->True:=λ_ _=>trivial
  rw[Ev]
  by_cases z:k=6
  .subst z
   rcases JN o.1 with h' | h' | h' | h' | h' | h' | ⟨_,rfl,rfl,b,e,rfl,x⟩
   iterate 6 exact absurd h' AD
   simp only[BO,AK] at o;have M:wt (.mk 6 [] 0 [b,e])=wt e+max 1 (cv e)*wt b:=rfl;have N:bw (.mk 6 [] 0 [b,e])=bw e+1+(cv e+1)*bw b:=rfl;have e3:nb (.mk 6 [] 0 [b,e])=1+nb e+nF e*nb b:=rfl;have O:1*wt b<=max 1 (cv e)*wt b:=Be _ AA;have Q:1*bw b<=(cv e+1)*bw b:=Be _ AA;have S:1*nb b<=nF e*nb b:=Be _ (AGq e);refine⟨λ_ T B A=>?_,λ_=>Uw λd j=>up d j ?_⟩
   .cases A
    exact⟨o.2.1,x,by grind[Al,Cp],by grind[AP,Ak],AA,AA,AA⟩
   grind
  grind[Uw]
def uh {α β:Type} (p:α->Bool) (g:α->List β) (q:β->Bool):∀l:List α,(l.all p&&(l.flatMap g).all q)=l.all λb=>p b&&(g b).all q
 | []=>rfl
 | a::l=>by grind
def all_congr {α:Type} {p q:α->Bool}:∀{l:List α},(∀a∈l,p a=q a)->l.all p=l.all q
 | [],_=>rfl
 | a::l,h=>by
  rw[FX,FX,h a AD,all_congr λb hb=>h b AB]
def CD.map_eq {α β γ:Type} {R:α->β->Prop} {f:α->γ} {g:β->γ} (h:∀a b,R a b->f a=g b):∀{l:List α} {m:List β},CD R l m->l.map f=m.map g
 | [],[],_=>rfl
 | a::l,b::m,⟨d,e⟩=>by rw[CH,CH,h a b d,e.map_eq h]
 | [],_::_,h=>h.elim
 | _::_,[],h=>h.elim
def O9 {t:Ty} {f:Nat} (d:A2 t=Z) (e:CJ 0 t=Z):∀b∈(BI (Aa 32) f t []).2,WT t b:=by
 have:=Ll (A7:=Aa 32) (P:=WT t) f t [] d e (QJ _ t (AU _) d) [] (λb hb=>by grind)
 grind[Ck]
def ANU:∀(f:Nat) (t:Ty),(DJ t=0->CG (bw t))->xP f t=xR f t:=by
 intro f
 induction f with
 | zero=>intro t _; rfl
 | succ f A=>
  intro t i;rw[xP,xR];cases r:!(DJ t==0)||!(CJ 0 t) with
  | true=>rfl
  | false=>
   simp only[HC,Bool.not_eq_false',Gf] at r;obtain⟨j,n⟩:=r;have i:=i j;have⟨j,_,_⟩:=E6 j;simp only[AL];have h:=MM (A7:=Aa 32) rfl rfl (Al t) t [] j n EI i [] (λx hx=>by grind);rw[Ck j n] at h;have hb:=O9 (f:=Al t) j n;have u:=Cq (A7:=Aa 32) (Al t) t;generalize DR (Aa 32) (Al t) t=o at h u;generalize BI (Aa 32) (Al t) t []=C at h hb;rcases o with _|l <;> rcases C with ⟨_|ps,B⟩
   .rfl
   .exact h.elim
   .exact h.elim
   .obtain⟨_,L⟩:=h
    simp only at hb ⊢
    have e:l.map CE=ps.map (Gc B):=by
     have D:CD (λb p=>b∈l/\∃φ,Rl ϴ 0 B (F ([]:Ϣ)) (F B) [] b p φ) l ps:=by
      have E:∀(k:Ϥ) (d:Ϣ),(∀b∈k,b∈l)->CD (λb p=>∃φ,Rl ϴ 0 B (F ([]:Ϣ)) (F B) [] b p φ) k d->CD (λb p=>b∈l/\∃φ,Rl ϴ 0 B (F ([]:Ϣ)) (F B) [] b p φ) k d:=by
       intro k
       induction k with
       | nil=>intro d _ h; cases d with
        | nil=>trivial
        | cons _ _=>exact h.elim
       | cons a k y=>
        intro d hm h;cases d with
        | nil=>exact h.elim
        | cons p d=>exact⟨⟨hm a AD,h.1⟩,y d (λb hb=>hm b AB) h.2⟩
      grind
     refine D.map_eq λb p ⟨I,φ,H⟩=>(UO H (AU _) (DE i ?_)).symm
     have:=H.N8;have:=H.len
     grind
    rw[e,uh]
    have s:(ps.map (Gc B)).all (λb=>Mp b&&b.AN.all λb=>C2 (xP f b))=(ps.map (Gc B)).all (λb=>Mp b&&b.AN.all λb=>C2 (xR f b)):=by
     refine all_congr λb z=>?_
     obtain⟨p,_,rfl⟩:=Cw.1 z;congr 1;refine all_congr λc m=>?_
     rw[A c];intro K;have m:c∈(Lc (F B) p []).2.map λx=>B.getD x XL:=m
     obtain⟨x,_,rfl⟩:=Cw.1 m;rw[Sy];cases hx:B[x]? with
     | none=>exact DE i (AO _)
     | some c=>exact DE i (hb c (A8 hx)).bws
    rw[s]
def pL (out l:Ϥ):F (GU out l)=F out*F l:=by
 rw[GU,List.length_flatMap]
 induction out with
 | nil=>simp
 | cons x out b=>
  grind
mutual
def vP (p:Int->Bool):Ty->Bool
 | .mk k n i ts=>bif k==5 then n==[]&&(ts.isEmpty&&p i) else bif k==2||k==3 then SH p ts else Z
def SH (p:Int->Bool):Ϣ->Bool
 | []=>Z
 | t::l=>vP p t&&SH p l
end
mutual
theorem MS {p q:Int->Bool} (h:∀i,p i=Z->q i=Z):∀t:Ty,vP p t=Z->vP q t=Z
 | .mk k n i ts,b=>by
  rw[vP] at b ⊢;cases d:k==5 with
  | true=>
   grind
  | false=>
   rw[d] at b;cases e:k==2||k==3 with
   | true=>
    rw[e] at b;exact Ux h ts b
   | false=>rfl
theorem Ux {p q:Int->Bool} (h:∀i,p i=Z->q i=Z):∀l:Ϣ,SH p l=Z->SH q l=Z
 | [],_=>rfl
 | t::l,b=>by
  simp only[SH,AK] at b ⊢;exact⟨MS h t b.1,Ux h l b.2⟩
end
theorem Uy (p:Int->Bool):∀(l m:Ϣ),SH p (l++m)=(SH p l&&SH p m)
 | [],m=>by rfl
 | t::l,m=>by simp[SH,Uy p l m,Lz]
theorem QK:∀(l m:Ϣ),Ak (l++m)=Ak l+Ak m
 | [],m=>by simp[Ak]
 | t::l,m=>by simp only[DV,Ak,QK l m]; omega
mutual
def LD {p q:Int->Bool} {g:Int->Int} (h:∀i,p i=Z->q (g i)=Z):∀t:Ty,vP p t=Z->vP q (Bq (λi=>var (g i)) t)=Z/\AP (Bq (λi=>var (g i)) t)=AP t
 | .mk k n i ts,b=>by
  rw[vP] at b;rw[Bq];cases d:k==5 with
  | true=>
   grind[AP,vP]
  | false=>
   rw[d] at b;simp only[AL] at b ⊢;cases e:k==2||k==3 with
   | true=>
    rw[e] at b;have⟨f,j⟩:=mP h ts b
    grind[AP,vP]
   | false=>
    grind[vP]
def mP {p q:Int->Bool} {g:Int->Int} (h:∀i,p i=Z->q (g i)=Z):∀l:Ϣ,SH p l=Z->SH q (B4 (λi=>var (g i)) l)=Z/\Ak (B4 (λi=>var (g i)) l)=Ak l
 | [],_=>⟨rfl,rfl⟩
 | t::l,b=>by
  simp only[SH,AK] at b;have⟨d,e⟩:=LD h t b.1;have⟨f,j⟩:=mP h l b.2
  grind[B4,SH,Ak]
end
mutual
def uj {p:Int->Bool} {c:Ty} (f:vP p c=Z):∀(b:Ty) (k:Nat),vP p b=Z->vP p (Mn c b k)=Z/\AP (Mn c b k)<=AP b+AP c
 | .mk d n i ts,k,hb=>by
  have l:=hb;rw[vP] at hb;rw[Mn];cases j:d==5 with
  | true=>
   grind
  | false=>
   rw[j] at hb;simp only[AL] at hb ⊢;cases m:d==3 with
   | true=>
    have e:(d==2||d==3)=true:=AB;rw[e] at hb;have⟨o,r⟩:=uk f ts k hb
    grind[AP,vP]
   | false=>grind
def uk {p:Int->Bool} {c:Ty} (d:vP p c=Z):∀(l:Ϣ) (k:Nat),SH p l=Z->SH p (He c l k)=Z/\Ak (He c l k)<=Ak l+AP c
 | [],_,_=>⟨rfl,AO _⟩
 | t::l,k,b=>by
  simp only[SH,AK] at b;rw[He];cases decide (k<F (Af t)) with
  | true=>
   have⟨e,f⟩:=uj d t k b.1
   grind[SH,Ak]
  | false=>
   have⟨e,f⟩:=uk d l (k-F (Af t)) b.2
   grind[SH,Ak]
end
mutual
def QL {p:Int->Bool}:∀t:Ty,vP p t=Z->∀i∈Af t,p i=Z
 | .mk k n i ts,b,j,d=>by
  rw[vP] at b;rw[Af] at d;cases f:k==5 with
  | true=>
   grind
  | false=>
   rw[f] at b d;cases l:k==3 with
   | true=>
    have e:(k==2||k==3)=true:=AB;rw[l] at d;rw[e] at b;exact dh ts b j d
   | false=>grind
def dh {p:Int->Bool}:∀l:Ϣ,SH p l=Z->∀i∈B5 l,p i=Z
 | [],_,_,hj=>by cases hj
 | t::l,b,j,hj=>by
  simp only[SH,AK] at b;rw[B5] at hj;rcases CU.1 hj with hj|hj
  .exact QL t b.1 j hj
  .exact dh l b.2 j hj
end
mutual
def I9:∀t:Ty,A2 t=Z->vP (λi=>decide (0<=i)&&decide (i<=200)) t=Z
 | .mk k n i ts,h=>by
  have b:=h;simp only[A2,AK] at h;rw[vP];cases d:k==5 with
  | true=>
   grind[EL,Lg]
  | false=>
   simp only[AL];rw[Xs ts h.2];simp
def Xs:∀l:Ϣ,BO l=Z->SH (λi=>decide (0<=i)&&decide (i<=200)) l=Z
 | [],_=>rfl
 | t::l,h=>by
  simp only[BO,AK] at h;rw[SH,I9 t h.1,Xs l h.2];rfl
end
abbrev Sa (N:Nat):Int->Bool:=λi=>decide (-201<=i)&&(decide (i<N)||i==AW)
def Zm {N:Nat} {i:Int}:Sa N i=Z<->-201<=i/\(i<N\/i=AW):=AD
def AGr {N M:Nat} (h:N<=M) (i:Int) (b:Sa N i=Z):Sa M i=true:=AB
def count_map {l:Ϛ} {g:Int->Int} (h:∀i∈l,g i=AW->i=AW) (b:l.count AW=0):(l.map g).count AW=0:=by grind[List.count_eq_zero]
def MT (n:Nat):HE n=Bq λi=>var (bif decide (0<=i)&&!(i==AW) then i+n else i):=by grind[HE]
def ANV {N n:Nat} {i:Int} (b:Sa N i=Z):Sa (n+N) (bif decide (0<=i)&&!(i==AW) then i+n else i)=true:=by grind[decide]
def AAG {N n:Nat} (h:((n+N:Nat):Int)<AW) {i:Int} (b:Sa N i=Z) (d:(bif decide (0<=i)&&!(i==AW) then i+n else i)=AW):i=AW:=AB
structure LF (W:Nat) (b:Br):Prop where
 ok:vP (Sa (F b.AN)) b.AM=Z
 Gw:AP b.AM<=W
 nh:(Af b.AM).count AW=0
def LF.le {W V:Nat} {b:Br} (h:LF W b) (d:W<=V):LF V b:=⟨h.ok,BC h.Gw d,h.nh⟩
def LF.shift {W:Nat} {c:Br} (h:LF W c) {n:Nat} (hs:((n+F c.AN:Nat):Int)<AW):vP (Sa (n+F c.AN)) (HE n c.AM)=Z/\AP (HE n c.AM)<=W/\(Af (HE n c.AM)).count AW=0:=by
 rw[MT];have⟨d,e⟩:=LD (q:=Sa (n+F c.AN)) (g:=λi=>bif decide (0<=i)&&!(i==AW) then i+n else i) (λi b=>ANV b) c.AM h.ok;refine⟨d,by rw[e]; exact h.Gw,?_⟩;rw[Dp];exact count_map (λi b f=>AAG hs (QL _ h.ok i b) f) h.nh
section
variable {A7:Nat->Bool}
def Zn {W:Nat} {b c:Br} {k:Nat} (hb:vP (Sa (F b.AN)) b.AM=Z) (f:El b.AM=Y k) (j:LF W c) (hs:((F b.AN+F c.AN:Nat):Int)<AW) :
  vP (Sa (F (CA b k c).AN)) (CA b k c).AM=Z/\AP (CA b k c).AM<=AP b.AM+W/\(Af (CA b k c).AM).count AW+1=(Af b.AM).count AW/\k<F (Af b.AM):=by
 have⟨l,p,r⟩:=j.shift hs;have s:F (CA b k c).AN=F b.AN+F c.AN:=by simp[CA]
 have⟨d,m⟩:=Dr f;have o:k<F (Af b.AM):=(BJ.1 d).1;have⟨t,u⟩:=MJ d m;have e:(CA b k c).AM=Mn (HE (F b.AN) c.AM) b.AM k:=rfl;have⟨x,y⟩:=uj l b.AM k (MS (λi n=>AGr (Ni _ _) i n) _ hb)
 grind[N2]
def Zo {l:Ϥ} {W w S T:Nat} (j:∀c∈l,LF W c/\F c.AN<=w) (p:(T:Int)<AW):∀(f:Nat) (b:Br) (r:Ϥ),vP (Sa (F b.AN)) b.AM=Z->(Af b.AM).count AW<=f->AP b.AM+(Af b.AM).count AW*W<=S->F b.AN+(Af b.AM).count AW*w<=T ->
  DQ A7 l f b=Y r->∀d∈r,LF S d
 | 0,b,r,hb,hf,hS,_,h,d,i=>by
  rw[DQ] at h;cases h;rw[DW.1 i];exact⟨hb,AA,AA⟩
 | f+1,b,r,hb,hf,hS,z,h,d,i=>by
  rw[DQ] at h;cases e:El b.AM with
  | none=>
   rw[e] at h;cases h;rw[DW.1 i];refine⟨hb,AA,?_⟩;rw[Kc];intro hm;have m:(Af b.AM).findIdx? (·==AW)=none:=e
   grind
  | some k=>
   rw[e] at h;rcases Iz h d i with C|⟨c,t,s,m,u⟩
   .grind
   .have⟨x,A⟩:=j c t
    have o:0<(Af b.AM).count AW:=by
     have B:=Dr e
     grind
    have D:1*w<=(Af b.AM).count AW*w:=Be _ o;have⟨y,E,n,_⟩:=Zn hb e x AA;have H:F (CA b k c).AN=F b.AN+F c.AN:=by simp[CA]
    have I:(Af b.AM).count AW*W=(Af (CA b k c).AM).count AW*W+W:=by rw[<-n,Kh]
    have K:(Af b.AM).count AW*w=(Af (CA b k c).AM).count AW*w+w:=by rw[<-n,Kh]
    exact Zo j p f _ s y AA AA AA m d u
def AAH (n:Nat) (t:Ty):Gm n t=Bq (λi=>var (bif i==-1 then(n:Int) else bif decide (i<0) then i+1 else i)) t:=by rw[KB]
def AAI {W:Nat} {b:Br} (h:LF W b) (hs:((F b.AN:Nat):Int)<AW):vP (Sa (F b.AN+1)) (Gm (F b.AN) b.AM)=Z/\AP (Gm (F b.AN) b.AM)=AP b.AM/\(Af (Gm (F b.AN) b.AM)).count AW=0:=by
 rw[AAH];have⟨d,e⟩:=LD (q:=Sa (F b.AN+1)) (g:=λi=>bif i==-1 then(F b.AN:Int) else bif decide (i<0) then i+1 else i) (λi f=>by grind) b.AM h.ok;refine⟨d,e,?_⟩;rw[Dp];refine count_map (λi f j=>?_) h.nh
 grind
def AAJ {N:Nat} {t:Ty} (h:vP (Sa (N+1)) t=Z) (hs:(N:Int)<AW):vP (Sa N) (Ht N AW t)=Z/\AP (Ht N AW t)=AP t:=by
 rw[JF];refine LD (q:=Sa N) (g:=λi=>bif i==(N:Int) then AW else i) (λi b=>?_) t h
 grind
def um {W Wb w C:Nat} {LA:Option Ϥ} {p:Ty} {b:Br} (hb:LF W b) (H:F (Af b.AM)<=C) (s:∀l,LA=Y l->∀c∈l,LF Wb c/\F c.AN<=w) {T:Nat} (t:(T:Int)<AW) (A:F b.AN+F (Af b.AM)*w<=T) {r:Ϥ} (h:Dn A7 LA p b=Y r):∀d∈r,LF (W+C*Wb) d:=by
 have m:((F b.AN:Nat):Int)<AW:=AA;have⟨u,I,x⟩:=AAI hb m;have⟨n,K⟩:=AAJ u m;have B:=hb.Gw;intro d e;unfold Dn at h;cases o:oI (·==(F b.AN:Int)) (Gm (F b.AN) b.AM) with
 | true=>
  rw[o] at h;cases h;rw[DW.1 e];exact⟨AB,AB,x⟩
 | false=>
  rw[o] at h;simp only[AL] at h;cases f:El (Ht (F b.AN) AW (Gm (F b.AN) b.AM)) with
  | none=>
   rw[f] at h;cases h;rw[DW.1 e];refine⟨n,AB,?_⟩;rw[Kc];intro hm;have L:(Af (Ht (F b.AN) AW (Gm (F b.AN) b.AM))).findIdx? (·==AW)=none:=f
   grind
  | some k=>
   rw[f] at h;cases j:LA with
   | none=>grind
   | some l=>
    rw[j] at h;simp only at h;have D:F (Af (Ht (F b.AN) AW (Gm (F b.AN) b.AM)))=F (Af b.AM):=by simp[*,JF,Dp,KB]
    have i:(Af (Ht (F b.AN) AW (Gm (F b.AN) b.AM))).count AW<=F (Af b.AM):=AB;have E:=Eb b.AM;refine Zo (S:=W+C*Wb) (T:=T) (λc y=>s l j c y) t _ ⟨b.AN,Ht (F b.AN) AW (Gm (F b.AN) b.AM)⟩ r n i ?_ ?_ h d e
    .have z:(Af (Ht (F b.AN) AW (Gm (F b.AN) b.AM))).count AW*Wb<=C*Wb:=Be _ AA
     grind
    .have z:(Af (Ht (F b.AN) AW (Gm (F b.AN) b.AM))).count AW*w<=F (Af b.AM)*w:=Be _ i
     grind
end
section
variable {A7:Nat->Bool}
theorem uo {W S:Nat} {b c:Br} {args:Ϣ} (hb:LF S b) (i:b.AM=.mk 3 [] 0 args) (j:LF W c) (hs:((F b.AN+F c.AN:Nat):Int)<AW):LF (S+W) ⟨b.AN++c.AN,.mk 3 [] 0 (args++[HE (F b.AN) c.AM])⟩:=by
 have⟨k,l,m⟩:=j.shift hs;have d:=hb.ok;have e:=hb.Gw;have f:=hb.nh;rw[i] at d e f;have d:SH (Sa (F b.AN)) args=true:=Bp;have e:Ak args+1<=S:=Bp;have f:(B5 args).count AW=0:=Bp;refine⟨?_,?_,?_⟩
 all_goals grind[vP,SH,Uy,Ux,AP,QK,Ak,Af,XJ]
def uq {T:Nat} (k:(T:Int)<AW):∀{ls:List Ϥ} {e vs:Ϟ} {out r:Ϥ} {N S:Nat},(CD (λl w=>∀c∈l,LF w c) ls e)->(CD (λl w=>∀c∈l,F c.AN<=w) ls vs) ->
  (∀b∈out,LF S b/\F b.AN<=N/\∃args,b.AM=.mk 3 [] 0 args)->N+vs.sum<=T->H7 A7 ls out=Y r->∀d∈r,LF (S+e.sum) d
 | [],[],[],out,r,N,S,_,_,m,_,h,d,f=>by grind[H7]
 | [],_::_,_,_,_,_,_,h,_,_,_,_,_,_=>h.elim
 | [],[],_::_,_,_,_,_,_,h,_,_,_,_,_=>h.elim
 | _::_,[],_,_,_,_,_,h,_,_,_,_,_,_=>h.elim
 | _::_,_::_,[],_,_,_,_,_,h,_,_,_,_,_=>h.elim
 | l::ls,w::e,v::vs,out,r,N,S,⟨o,i⟩,⟨p,j⟩,m,n,h,d,f=>by
  rw[H7] at h;rw[Ke] at n;cases hb:A7 (F (GU out l)) with
  | true=>grind
  | false=>
   rw[hb] at h;have:=uq k (N:=N+v) (S:=S+w) i j ?_ AA h d f
   all_goals grind[GU,uo]
def Ln:∀(f:Nat) (t:Ty) (l:Ϥ),A2 t=Z->CG (bw t)->DR A7 f t=Y l->∀b∈l,LF (wt t) b:=by
 intro f
 induction f with
 | zero=>
  grind[DR]
 | succ f y=>
  intro t l m z h d o;obtain⟨k,n,i,ts⟩:=t;have K:=m;simp only[A2,AK] at m;rw[DR] at h;have I:∀(ξ:(k==6)=ϴ) (ι:(k==3||k==4)=Z),∀β∈ts,CG (bw β):=by grind[DE,bw,Fp,EM]
  rcases JN m.1 with ⟨rfl,rfl,rfl,rfl⟩|⟨rfl,rfl,rfl,rfl⟩|rfl|⟨rfl,rfl,rfl⟩|⟨rfl,rfl,rfl,κ⟩|⟨rfl,rfl,rfl,ο⟩|⟨rfl,rfl,rfl,b,j,rfl,μ⟩
  .cases h
   rw[DW.1 o];exact⟨rfl,by grind[AP,wt],rfl⟩
  .grind
  .have hm:∀i,(decide (0<=i)&&decide (i<=200))=Z->Sa 0 (-1-i)=true:=λi γ=>by grind
   have⟨A,δ⟩:=LD hm _ (I9 _ K);cases h;rw[DW.1 o];refine⟨A,?_,?_⟩
   all_goals simp[*,AP,ML,wt,Nt,Af,Dp]
  .simp only[show((3:Int)==0)=ϴ from rfl,show((3:Int)==2||(3:Int)==5)=ϴ from rfl,AL,CS,AQ] at h
   cases r:FH (ts.map (DR A7 f)) with
   | none=>grind
   | some u=>
    rw[r] at h;simp only at h;have B:=I0 r;cases ε:u.any List.isEmpty with
    | true=>grind
    | false=>
     rw[ε] at h;have Q:=I rfl rfl;have q1:CD (λl w=>∀c∈l,LF w c) u (ts.map wt):=B.Hv λt l hm E c p=>y t l (CB m.2 hm) (Q t hm) E c p
     have ζ:CD (λl w=>∀c∈l,F c.AN<=w) u (ts.map bw):=B.Hv λt l _ E c p=>(Cq f t l E c p).1
     have:=uq (T:=bw (.mk 3 [] 0 ts)) z (N:=0) (S:=1) q1 ζ (λb hb=>by
      rw[DW.1 hb];exact⟨⟨rfl,by simp[AP,Ak],rfl⟩,AD,_,rfl⟩) (by grind[bw,Fp]) h d o
     grind[wt,JG]
  .simp only[show((4:Int)==0)=ϴ from rfl,show((4:Int)==2||(4:Int)==5)=ϴ from rfl,show((4:Int)==3)=ϴ from rfl,AL,CS,AQ] at h
   cases r:FH (ts.map (DR A7 f)) with
   | none=>grind
   | some u=>
    rw[r] at h;simp only at h;have B:=I0 r;cases hb:A7 (F u.flatten) with
    | true=>grind
    | false=>
     rw[hb] at h;cases h;have⟨L,D,H⟩:=Sx.1 o;have⟨t,x,η⟩:=B.Lb L D;refine(y t L (CB m.2 x) (I rfl rfl t x) η d H).le ?_;have e:wt (.mk 4 [] 0 ts)=1+(ts.map wt).sum:=by grind[wt,JG]
     have:=EM (EH (f:=wt) x);omega
  .have hm:∀i,(decide (0<=i)&&decide (i<=200))=Z->Sa 0 (-1-i)=true:=λi γ=>by grind
   have⟨A,δ⟩:=LD hm _ (I9 _ K);cases h;rw[DW.1 o];refine⟨A,?_,?_⟩
   .simp[*,AP,ML,wt,Nt]
   .show(Af (o8 _)).count AW=0
    rw[ML,Dp,Af]
    grind[List.count_eq_zero,AW]
  .simp only[show((6:Int)==0)=ϴ from rfl,show((6:Int)==2||(6:Int)==5)=ϴ from rfl,show((6:Int)==3)=ϴ from rfl,show((6:Int)==4)=ϴ from rfl,AL,CS,AQ,ah] at h
   simp only[BO,AK] at m;obtain⟨_,U,W,_⟩:=m;have ν:bw (.mk 6 [] 0 [b,j])=bw j+1+(cv j+1)*bw b:=rfl;have X:CG (bw b):=DE z AB;have α:CG (bw j):=DE z AA;cases hb:DR A7 f j with
   | none=>grind
   | some M=>
    rw[hb] at h;simp only at h;rcases Iz h d o with π|⟨a,D,s,H,x⟩
    .grind
    .have⟨ρ,θ⟩:=Cq f j M hb a D
     have e:wt (.mk 6 [] 0 [b,j])=wt j+max 1 (cv j)*wt b:=rfl;rw[e];refine um (T:=bw (.mk 6 [] 0 [b,j])) (w:=bw b) (y j M W α hb a D) (C:=max 1 (cv j)) AA (λl O c p=>⟨y b l U X O c p,(Cq f b l O c p).1⟩) z ?_ H d x;have A:F (Af a.AM)*bw b<=cv j*bw b:=Be _ θ
     grind
end
def Bk.mQ {E:Env} {L:Ba} {f:FuncId} {args:Ϭ} {s b:AY} {v:AV} {T:Ba->Ϭ->AY->Option (AV×AY)} {fn:Func} (e:E.P.funcs[f]?=Y fn) (i:E.clone f=Z) (j:E.told f=Y T) (h:T L args s=Y (v,b)):Bk E L f args s v b:=by
 refine⟨1,λm hm=>?_⟩;obtain⟨m,rfl⟩:∃d,m=d+1:=⟨m-1,AA⟩
 grind[Dk,Pb]
def Xt {l:Ϛ} (hs:l.Pairwise (·<·)) {h:Nat} {u:Int} (i:l[h]?=Y u):(∀x∈l.take (h+1),x<=u)/\(∀x∈l.drop h,u<=x)/\(∀x∈l.drop (h+1),u<x):=by
 have e:l=l.take h++u::l.drop (h+1):=by grind[drop_cons,List.take_append_drop]
 have b:=hs;rw[e,List.pairwise_append] at b;obtain⟨j,d,k⟩:=b;have f:=(List.pairwise_cons.1 d).1;refine⟨λx hx=>?_,λx hx=>?_,f⟩
 all_goals grind
section
variable {R:RT}
def RM (w:Int):Ah (env R) 152 [AG w] λr=>r=BB false:=
 AWs (u0:=AG w) AD (AGs (Ef ⟨_,GG,AD⟩))
def pM (w:Int):Ah (env R) 163 [AG w] λr=>r=BB false:=
 AWt (u0:=AG w) AD (AGt (Ef ⟨_,GG,AD⟩))
def pN (a b:Int):Ah (env R) 162 [AG a,AG b] λr=>r=BB (decide (a<b)):=by
 refine AWu (u0:=AG a) (u1:=AG b) AD (AGu ?_);refine AI (RM a) ?_;rintro v rfl;exact B7 (B7 (B7 (pk (Aw (Aw (Aw (Ao (pk ⟨_,GG,rfl⟩))))))))
def ur (bs:Ϩ) (l:Ϛ) (x:AV):Prop:=(x=.AE []/\l=[])\/∃id,x=.ref id 0 (F l) 1/\bs[id]?=Y (l.map λn=>AG n)/\l≠[]
def MU {s:AY} {id:Nat} {l:Ϛ} (hid:s.bs[id]?=Y (l.map λn=>AG n)) (b:l≠[]):alive s id=true:=by
 obtain⟨c,r,d⟩:∃c r,l=c::r:=by
  cases l with
  | nil=>grind
  | cons c r=>simp
 simp[*]
def QN {b:Bool} {s:AY} {W:Ϡ->Prop} {K:Ϡ} (h:K (.tuple []) s):Qk (.tuple []) b s W K:=h
def AAK {s:AY} {id i:Nat} {l:Ϛ} {w:Int} (hid:s.bs[id]?=Y (l.map λn=>AG n)) (b:l≠[]) (d:l[i]?=Y w) {K:AV->Prop} (h:K (AG w)):OK s 1 (.ref id 0 (F l) 1) (AG i) λa=>EX (env R) s G a K:=by
 have e:i<F l:=(BJ.1 d).1;refine⟨⟨AA,AA,rfl,MU hid b⟩,?_⟩
 simp_all
def Found (l:Ϛ) (w:Int) (i:Nat) (b:Bool):Prop:=i<=F l/\(b=Z->l[i]?=Y w)/\(b=ϴ->(∀u∈l.take i,u<w)/\∀u∈l.drop i,w<u)
def Zp {w:Int} {l:Ϛ} (hs:l.Pairwise (·<·)) {id:Nat} {s:AY} (hid:s.bs[id]?=Y (l.map λn=>AG n)) (t:l≠[]) (U:F l<2 ^ 40) {Post:AV->Prop} (N:∀(i:Nat) b,Found l w i b->Post (.tuple [AG i,BB b])) {n0 ro rt n m:Nat} :
  ∀(d i j:Nat),j-i<=d->i<=j->j<=F l->(∀u∈l.take i,u<w)->(∀u∈l.drop j,w<=u)->uu R n0 ro rt (.ref id 0 (F l) 1) (AG w) (AG (F l)) (AG i) (AG j) s (QI n m Post):=by
 have z:∀(i:Nat) b,Found l w i b->QI n m Post (.tuple [AG i,BB b]) s:=λi b h=>⟨_,AD,N i b h⟩
 intro d
 induction d with
 | zero=>
  intro i j O C k o r;have e:i=j:=AA;subst e;refine jX (Ao ?_);simp only[Int.lt_irrefl,Ym];refine A4 (uv (Ao ?_))
  by_cases D:i<F l
  .have⟨u,f⟩:∃u,l[i]?=Y u:=⟨_,Az D⟩
   have p:decide ((i:Int)<(F l:Int))=true:=AB;rw[p];refine Aw (Aw ?_);refine Aw ?_;have Q:i<F l:=D;refine⟨⟨AA,AA,rfl,MU hid t⟩,?_⟩;have e:0+((i:Int).toNat)*1=i:=AA;rw[e];refine Aw ?_;simp only[EX,hid,wO,Dd,E8,f,Nl];refine Aw (Aw (BE ?_));cases hb:(u==w) with
   | true=>
    have A:u=w:=AB;subst A;refine Aw ?_;refine LC AD (LC AD (LC AD (LC AD (LC AD (LC AD (QN (QN (LC AD ?_))))))));exact Aw (pk (pk (z i Z ⟨k,λ_=>f,AD⟩)))
   | false=>
    have A:u≠w:=AB
    have hf:Found l w i false:=⟨k,AD,λ_=>⟨o,λx hx=>by
     have W:=(Xt hs f).2.1 x hx;have X:=r u (by rw[drop_cons f]; simp);omega⟩⟩
    refine Aw ?_;refine Aw (Aw (Aw ?_));refine⟨⟨AA,AA,rfl,MU hid t⟩,?_⟩;rw[e];refine Aw ?_;simp only[EX,hid,wO,Dd,E8,f,Nl];refine Aw ?_;refine AI (pM u) ?_;simp[*]
  .have p:decide ((i:Int)<(F l:Int))=false:=by grind
   rw[p];refine LC AD (LC AD (LC AD (LC AD (LC AD (LC AD (LC AD ?_))))));refine QN (QN (QN (QN (QN (QN (QN (QN (QN ?_))))))));exact LC AD (pk (z i ϴ ⟨k,AD,λ_=>⟨o,λx hx=>by grind⟩⟩))
 | succ d y=>
  intro i j O C k o r
  by_cases S:i<j
  .refine jX (Ao ?_)
   have p:decide ((i:Int)<(j:Int))=true:=AB;rw[p];refine BH (AGv (Bb AA AA ?_));have L:IntKind.u64.wrap ((i:Int)+j)=(i:Int)+j:=by grind[IntKind.wrap,IntKind.bits,IntKind.signed]
   have H:∀(K:AV->Prop),K (.pv (.sc (.int .u64 ((i:Int)+j))))->PA .u64 (AG ((i:Int)+j)) K:=by
    intro K h;simp only[PA,L];exact h
   refine H _ ?_
   have I:∀(K:AV->Prop),K (.pv (.sc (.int .u64 (((i+j) / 2:Nat):Int))))->Dh .u64 .shr (.pv (.sc (.int .u64 ((i:Int)+j)))) (.pv (.sc (.int .u64 1))) K:=by
    intro K h;refine⟨⟨rfl,rfl⟩,AA,?_⟩
    have e:((i:Int)+j).fdiv (2 ^ (min (1:Int).toNat IntKind.u64.bits))=(((i+j) / 2:Nat):Int):=by
     have:(2:Int) ^ (min (1:Int).toNat IntKind.u64.bits)=2:=AX
     grind
    grind
   refine I _ ?_
   have M:IntKind.i64.wrap ((((i+j) / 2:Nat):Int))=(((i+j) / 2:Nat):Int):=by
    unfold IntKind.wrap;simp[IntKind.bits,IntKind.signed];omega
   have E:∀(K:AV->Prop),K (AG (((i+j) / 2:Nat):Int))->PA .i64 (.pv (.sc (.int .u64 (((i+j) / 2:Nat):Int)))) K:=by
    intro K h;simp only[PA,M];exact h
   refine E _ ?_;generalize α:(i+j) / 2=h at *;have⟨u,f⟩:∃u,l[h]?=Y u:=⟨_,Az AA⟩;refine AAK hid t f ?_;refine AI (pN u w) ?_;rintro v rfl;have T:=Xt hs f
   by_cases B:u<w
   .rw[Ax B]
    refine BH (Bb AA AA ?_);have:=y (h+1) j AA AA k (λx hx=>by grind) r
    grind
   .rw[A5 B]
    exact A4 (y i h AA AA AA o (λx hx=>by grind))
  .exact y i j AA C k o r
def Zq {w:Int} {l:Ϛ} (hs:l.Pairwise (·<·)) {x:AV} {s:AY} (hx:ur s.bs l x) (k:F l<2 ^ 40) :
  ∃v,(∃(i:Nat) (b:Bool),v=.tuple [AG i,BB b]/\Found l w i b)/\∀L,Bk (env R) L 142 [x,AG w] s v s:=by
 rcases hx with ⟨rfl,rfl⟩|⟨id,rfl,hid,d⟩
 .have:Ah (env R) 142 [.AE [],AG w] λv=>∃(i:Nat) (b:Bool),v=.tuple [AG i,BB b]/\Found [] w i b:=by
   refine AWv (u0:=.AE []) (u1:=AG w) AD (uw ?_);simp;refine jX ?_;simp;refine uv ?_;simp[*,QP,Found]
  obtain⟨v,n,o⟩:=this
  grind
 .have f:BZ [] 0 0 [.ref id 0 (F l) 1,AG w]=none:=by rfl
  refine i142 f (uw ?_);have j:=MU hid d
  have e:∀K:AV->Prop,K (AG (F l))->Gl s (.ref id 0 (F l) 1) K:=by
   intro K h;simp only[Gl,BG,j,AQ,wO];exact h
  refine e _ ?_;exact Zp hs hid d k (λi b h=>⟨i,b,rfl,h⟩) _ 0 (F l) (AU _) AA (AU _) (λu m=>by grind) (λu m=>by grind)
end
end Go.Proofs.YtpgfpakdnijngaaGreatDoor
