/-
  expand: its end; the loop over a union's members.
-/
import Derived.Test.YtpgfpakdnijngaaGreatDoorTD
import Derived.Test.YtpgfpakdnijngaaGreatDoorTC
import Derived.Test.YtpgfpakdnijngaaGreatDoorTB
import Derived.Test.YtpgfpakdnijngaaGreatDoorW1
set_option linter.all false
namespace Go.Proofs.YtpgfpakdnijngaaGreatDoor
open Go.Tel
section
variable {R:RT}
theorem S7 {e:Nat} {t6:AV} {s:AQ} {QR:QT} (h:QR (.tuple [.AE [],BB false]) s):mE R 0 0 0 (.ptr e 0) t6 (BB false) s QR:=
 ADn (nt (Cr (Cr (Cr (Cr (Cr (Cr (Cr (pk (A9 h))))))))))
theorem dI {e ml A6:Nat} {d a:AV} {l:List Ty} {s:AQ} {QR:QT} (ha:BE a (Ad (CA l))) (kE:s.bs[e]?=some [d,AG ml]) (hF:Dk ml A6 (bif AU A6 l.length then none else some l)) (h:∀w,Res w (bif AU A6 l.length then none else some l)->QR w s):mE R 0 0 0 (.ptr e 0) a (BB true) s QR:=by
 refine ADn (nt (Ak (b:=false) (Ak (b:=false) (Aq (n:=l.length) (by rw[ha.BA,Aa,Bo,Bm]) (Ak (b:=false) (Ak (b:=false) (C1 (AX kE) (Ak (b:=false) (AO (AX kE) (Ak (b:=false) (AZ (off:=1) kE rfl (Ak (b:=false) (F8 (pk ?_))))))))))))));have eb:decide ((l.length:Int)>(ml:Nat))=AU A6 l.length:=hF.APE;rw[eb];cases hb:AU A6 l.length with
 | true=>rw[hb] at h; exact A9 (h _ rfl)
 | false=>rw[hb] at h; exact Ay (APV (h _ ⟨a,rfl,ha⟩))
theorem Oa {ex:Ty->List Ty->Fw}:∀(l:List Ty) (out B:List Ty),(Gm ex l out false B).1.2=false
 | [],out,B=>rfl
 | t::l,out,B=>by
  rw[Gm];rcases ex t B with ⟨_|s,B1⟩
  .exact Oa l _ _
  .exact Oa l _ _
theorem ABI {e ml A6 M:Nat} {ex:Ty->List Ty->Fw} {B0:List Ty} (ig:∀t B,B<+:(ex t B).2) {ts:List Ty} (hxl:∀t∈ts,∀B r,(ex t B).1=some r->r.length<=A6) {ya:AV} (Vm:BE ya (Ad (CA ts))) (hl:ts.length*A6<2 ^ 38) (Sr:ts.length<2 ^ 38)
  (ih:∀t∈ts,∀B,B0<+:B->(ex t B).2.length<=M->Dk ml A6 (ex t B).1->∀x,BP (ren t) x->∀s,BI s->WG R e ml 44 [x] (ex t B) B s)
  {s0:AQ} (he:e<s0.bs.length) {d0:AV} {o:(List Ty×Bool)×List Ty} (ij:o.2.length<=M) (hF:Dk ml A6 (bif o.1.2 then some o.1.1 else none)) {QR:QT}
  (hK:∀bs tk d acc,BI ⟨bs,tk⟩->bs.take s0.bs.length=s0.bs.set e [d,AG ml]->Dl 0 tk 25 d (Ad o.2)->Cd d0 d s0.ts tk->BE acc (Ad (CA o.1.1))->mE R 0 0 0 (.ptr e 0) acc (BB o.1.2) ⟨bs,tk⟩ QR) :
  ∀(j p:Nat) (out:List Ty) (ok:Bool) (Bc:List Ty) (bs:List (List AV)) (tk:List (Nat×Nat)) (d acc:AV),p+j=ts.length->Gm ex (ts.drop p) out ok Bc=o->B0<+:Bc->out.length+j*A6<=ts.length*A6 ->
   BI ⟨bs,tk⟩->bs.take s0.bs.length=s0.bs.set e [d,AG ml]->s0.bs.length<=bs.length ->
   Dl 0 tk 25 d (Ad Bc)->Dl 0 tk 25 acc (Ad (CA out))->Cd d0 d s0.ts tk->DS acc s0.ts->SR d acc ->
   ADo R 0 0 0 (.ptr e 0) acc (BB ok) ya (AG ts.length) (AG p) ⟨bs,tk⟩ QR:=by
 intro j
 induction j with
 | zero=>
  intro p out ok Bc bs tk d acc hi hseq hB hop hs hT Mi hd hacc hch hfr KE;refine ADp (Ao ?_);rw[Az AA];rw[CH AA,Gm] at hseq;subst hseq;exact Ay (hK bs tk d acc hs hT hd hch hacc.A1)
 | succ j D1=>
  intro p out ok Bc bs tk d acc hi hseq hB hop hs hT Mi hd hacc hch hfr KE;refine ADp (Ao ?_);rw[Ar AA];obtain⟨c,hc⟩:∃c,ts[p]?=some c:=⟨_,Au AA⟩;have hrc:(CA ts)[p]?=some (ren c):=by grind[Bo]
  have hrl:((Aj (ren c)).map AV.pv).length=4:=by grind[Al]
  have hro:=DE (ren c)
  have Ku:Ah (bs.length+1) ((Aj (ren c)).map AV.pv)=true:=by
   obtain⟨k1,n1,i1,t1⟩:=ren c;rfl
  have D4:=(A7.Bi (ren c)).Fj;rw[KI] at hop;refine A9 (APW (BS Vm (row:=Aj (ren c)) AA (by grind[BJ]) (Al _) AA (Ca (Bj ?_))));rw[drop_cons hc,Gm] at hseq;generalize (Aj (ren c)).map AV.pv=row at hrl hro Ku D4;refine Bq (Ax bs Z4) hrl rfl AI (AN _) hro (.inl (AN _)) ?_;have e1:(bs++[Z4]).set bs.length row=bs++[row]:=AD;rw[e1];have hs1:BI ⟨bs++[row],tk⟩:=BI.app (s:=⟨bs,tk⟩) hs Ku;have gr:=Ax bs row;have Ny:=(DI Mi row).trans hT;have lb:(bs++[row]).length=bs.length+1:=AD;generalize bs++[row]=b1 at hs1 gr Ny lb;have gE:(s0.bs.set e [d,AG ml])[e]?=some [d,AG ml]:=by rw[CX he]
  have hfp:∀(l:List Ty) out ok B,B<+:(Gm ex l out ok B).2:=λl out ok B=>Po ig l out ok B
  have iq:=ih c (A3 hc) Bc hB;have hxc:=hxl c (A3 hc) Bc;have hpre:=ig c Bc;rcases hg:ex c Bc with ⟨r,B1⟩
  rw[hg] at hseq iq hpre hxc;simp only at hseq iq hpre hxc;have WH:B1.length<=M:=AB
  have l8:Dk ml A6 r:=by
   cases r with
   | none=>
    simp only[Bool.and_false] at hseq;have h0:=Oa (ex:=ex) (ts.drop (p+1)) out B1;rw[hseq] at h0;rw[h0] at hF;exact hF.none _
   | some r=>exact hF.some _
  obtain⟨w2,s2',⟨d2,I6,q1,q2,q3,rfl⟩,q4⟩:=iq WH l8 (.agg row) D4 ⟨b1,tk⟩ hs1 (Ce (env R) 44 0 0 0) d rfl rfl (CD Ny gE) hd;have Hh:(b1.set e [d2,AG ml]).take s0.bs.length=s0.bs.set e [d2,AG ml]:=by simp[*,EU]
  have KZ:=q3.keep hacc KE;have LO:SR d2 acc:=KE.Py q3 hacc;have LP:=hch.trans q3
  have pick:∀(b:Bool) (s:AQ) (K:AV->AQ->Prop),K (BB (ok&&b)) s->Tl (BB ok) true s (λK=>K (BB b) s) λa40 s1=>HW (BB ok) a40 (BB false) λa41=>K a41 s1:=by
   intro b s K hK;cases ok with
   | true=>grind[Ak,pk]
   | false=>grind[B8,pk]
  refine Ag gr hrl ⟨_,_,q4,?_⟩
  have go:∀(a2:AV) (b:Bool) (AH2:List Ty) (r2:List Ty),AH2=out++r2->r2.length<=A6->BE a2 (Ad (CA r2))->Gm ex (ts.drop (p+1)) AH2 (ok&&b) B1=o ->
    JM (.tuple [a2,BB b]) 0 λa33=>JM (.tuple [a2,BB b]) 1 λa34=>(4=4/\4≠0)/\Ik false (Ce (env R) 44 0 0 0) ⟨b1.set e [d2,AG ml],I6⟩ 25 4 56 acc a33 λa37 iz=>
     Tl (BB ok) true iz (λK=>K a34 iz) λa40 Zc=>HW (BB ok) a40 (BB false) λa41=>wT R 0 0 0 (.ptr e 0) a37 a41 ya (AG ts.length) (AG p) Zc QR:=by
   intro a2 b AH2 r2 sC Ng SH hseq;subst sC;refine B9 rfl (B9 rfl ⟨AI,FB KZ rfl (by grind[Bo]) SH λacc' Nl MS Vp=>pick b _ (λa41 Zc=>wT R 0 0 0 (.ptr e 0) acc' a41 ya (AG ts.length) (AG p) Zc QR) (APX (Ba AA AA ?_))⟩);have er:CA out++CA r2=CA (out++r2):=by simp[Bo]
   rw[er] at MS;have hd3:=Vp.keep q2 LO.symm;have OX:=LP.side Vp hfr;have hs2:BI ⟨b1.set e [d2,AG ml],Nl⟩:=BI.set (s:=⟨b1,tk⟩) hs1 (by simp[Ah,Aw,q2.A1.Aw]) _;have:=D1 (p+1) (out++r2) (ok&&b) B1 (b1.set e [d2,AG ml]) Nl d2 acc' AA hseq (hB.trans hpre) AB hs2 Hh AB hd3 MS OX (hfr.Py Vp LP.1) (LO.symm.Py Vp q2).symm
   grind
  cases r with
  | none=>
   cases q1;exact go (.AE []) false out [] AD AD (.inl (.AE _)) AB
  | some r=>
   obtain⟨a2,rfl,SH⟩:=q1
   grind
end
attribute [local simp] Ia Mt Js KW ER Fh Eo wO setCells IM D5 DF Ce E2 alive DX KF Tl gY HW JM HI Ib Lr JN oY kj okB oZ oa oc od og fP oh oo oq ot ou ow oz o5 o6 o7 o8 okF o9 pE pF pG pH V7 pI Qm Qn Qo Qp pJ pK pL pM pN pO pP pQ pR pS Hu pT kn pU pV pW pX pY pZ pg pn pq pz Cp
theorem AH3 {L:BL} {s:AQ} {a:AV} {es:List Ty} {t z:Ty} {K:AV->AQ->Prop} (ha:Dl 0 s.ts 25 a (Ad es)) (Ee:L.rt=0) (hl:es.length<2 ^ 38) (h:∀a' ts',Dl 0 ts' 25 a' (Ad (es++[t]))->Cd a a' s.ts ts'->K a' ⟨s.bs,ts'⟩) :
  wFu L s 25 4 56 a (.AE [Aj z]) (AG es.length) (.agg ((Aj t).map .pv)) K:=by
 have hlen:=Aa es;have hall:((Ad es).all λr=>r.length==4)=true:=by grind[HD]
 have ht:Cp ((Aj t).map AV.pv)=some (Aj t):=LN _;refine⟨⟨Aj z,rfl,Al z,DE z⟩,?_,?_⟩
 .rcases ha with rfl|⟨u,rfl,_,_⟩ <;> grind[HS,rowsOf]
 .unfold APZ
  refine⟨DE t,?_⟩
  show wO (Cp ((Aj t).map AV.pv)) _
  rw[ht];refine⟨Al t,?_⟩;have er:Ad es++[Aj t]=Ad (es++[t]):=by simp[FU,Ad]
  rcases ha with rfl|⟨u,rfl,h1,h2⟩
  .refine⟨⟨AA,AA,hall⟩,?_⟩
   refine h (.own s.ts.length (Ad es++[Aj t])) _ (.inr ⟨_,by rw[er],?_,AN _⟩) ⟨AD,λt ht _=>?_,.inr ⟨_,rfl,AY _⟩⟩
   all_goals grind
  .refine⟨⟨AA,AA,h1,AA,hall⟩,?_⟩
   have hlt:u<s.ts.length:=(BH.1 h1).1;refine h (.own u (Ad es++[Aj t])) _ (.inr ⟨u,by rw[er],?_,AN _⟩) ⟨AD,λw hw hn=>?_,.inl rfl⟩
   .grind
   .rw[GJ]
    intro hh;exact hn (by rw[<-hh]; rfl)
theorem BE.Dg {a:AV} {es:List Ty} (h:BE a (Ad es)):Tel.Dg a a=true:=by
 rcases h with (rfl|rfl)|⟨t,rfl⟩ <;> simp[Tel.Dg,DR,NZ]
abbrev qM (M:Nat):Int->Bool:=λi=>decide (0<=i)&&decide (i<M)
theorem wU {A6 M f v:Nat} {b:Ty} {B0:List Ty} (hv:valid b=true) (hc:CP 0 b=true) (hl:v<B0.length):ExB A6 v M (wt b) B0 (qM M) (A4 (AU A6) f b):=by
 refine⟨λB=>Fc f b B,λB r hB h hM=>?_⟩;have hBl:=hB.length_le
 have jA:∀q:Int->Bool,E7 q b=true:=λq=>by
  have:=Gq (q:=q) (σ:=[]) (λx hx=>by grind) b 0 hv
  grind[C8]
 have AYc:inp b=true:=by
  have:=(Jb [] b 0 hv).2.2.2
  grind[C8]
 have hlen:=Jz (A8:=AU A6) AR f b B r h;refine⟨AB,λc Kv=>?_⟩;obtain⟨h1,h2⟩:=Gn f b B M (qM M) r (λi h3 h4=>by grind) (jA _) h hM c Kv;obtain⟨h3,_⟩:=Gn f b B M (λi=>qM M i&&!(i==(v:Int))) r (λi h3 h4=>by grind[Bool.not_eq_true']) (jA _) h hM c Kv;have h5:=λinv=>Ph (q:=λi=>qM M i&&!(i==(v:Int))) (v:=v) AD c inv h3
 exact⟨h1,λinv=>(h5 inv).1,(h5 true).2,h2,Pr f b B r AYc h c Kv⟩
section
variable {R:RT}
theorem NB {e:Nat} {k i:Int} {n:List UInt8} {a:AV} {rows:List (List PV)} (ha:BE a rows) {s:AQ} {QR:QT} (b:Bool) (hb:(k==0||k==2)=b) (h:ADq R 0 0 0 (.ptr e 0) (.ptr s.bs.length 0) (.AE []) (BB true) (AG k) (BB b) ⟨s.bs++[[AG k,SS n,AG i,a]],s.ts⟩ QR):mF R 0 0 0 (.ptr e 0) (.agg [AG k,SS n,AG i,a]) s QR:=by
 have g0:=Ax s.bs [AG k,SS n,AG i,a];refine APa (Bx (cs:=[AG k,SS n,AG i,a]) rfl (by simp[ha.ok]) (AO (AX g0) (AZ (off:=0) g0 rfl (A0 ?_))));cases h0:(k==0) with
 | true=>
  simp_all
 | false=>
  simp_all
theorem ABJ {e ml A6:Nat} {T:Ty} {k i:Int} {n:List UInt8} {ts:List Ty} (hT:ren T=.mk k n i ts) (hk:(k==0||k==2)=true) {a:AV} (ha:BE a (Ad ts)) {s:AQ} {d:AV} (gE:s.bs[e]?=some [d,AG ml]) {QR:QT} (hF:Dk ml A6 (bif AU A6 1 then none else some [T])) (h:∀w,Res w (bif AU A6 1 then none else some [T])->QR w ⟨s.bs++[[AG k,SS n,AG i,a]],s.ts⟩):mF R 0 0 0 (.ptr e 0) (.agg [AG k,SS n,AG i,a]) s QR:=by
 have g0:=Ax s.bs [AG k,SS n,AG i,a];have hr:BP (ren T) (.agg [AG k,SS n,AG i,a]):=by rw[hT]; exact⟨a,rfl,ha⟩
 refine NB ha true hk (dJ (A9 (Ag g0 rfl (E9 hr ?_))));exact dI (l:=[T]) (.inl (by grind[CA,Ad,A2.AE])) (Ai gE _) hF h
theorem ABK {e:Nat} {k i:Int} {n:List UInt8} {a:AV} {rows:List (List PV)} (ha:BE a rows) {s:AQ} {QR:QT} (h0:k≠0) (h2:k≠2) (h3:k≠3) (h4:k≠4) (h6:k≠6) {d:AV} {ml A6:Nat} (hF:Dk ml A6 (some ([]:List Ty))) (gE:s.bs[e]?=some [d,AG ml]) (h:∀w,Res w (some [])->QR w ⟨s.bs++[[AG k,SS n,AG i,a]],s.ts⟩):mF R 0 0 0 (.ptr e 0) (.agg [AG k,SS n,AG i,a]) s QR:=by
 have e0:(k==0)=false:=AB;have e2:(k==2)=false:=AB;have e3:(k==3)=false:=AB;have e4:(k==4)=false:=AB;have e6:(k==6)=false:=AB;refine NB ha false AB (dJ (Ay (A0 ?_)));rw[e4];refine Ay (A0 ?_);rw[e3];refine Ay (A0 ?_);rw[e6];refine Ay ?_;exact dI (l:=[]) (.inl (by grind[CA,Ad,A2.AE])) (Ai gE _) (A6:=A6) (by exact hF) AB
end
def dK (A6:Nat) (ex:Ty->List Ty->Fw) (b body:Ty) (B:List Ty):Fw:=match ex (sub B.length 0 body) (B++[b]) with
 | (none,B1)=>(none,B1)
 | (some l,B1)=>match CY (AU A6) (B6 (AU A6) (ex b) B.length) l [] B1 with
  | (none,B2)=>(none,B2)
  | (some out,B2)=>(bif AU A6 out.length then none else some out,B2)
section
variable {R:RT}
theorem qW (hn:Pc R) {e ml A6 M f:Nat} (JU:A6<2 ^ 20) (hM:M<2 ^ 37) {b C5:Ty} {σ:List Nat} (KA:valid b=true) (hcb:CP 0 b=true) (hv:valid C5=true) (hc:CP (1+σ.length) C5=true) (hsz:size C5<2 ^ 38)
  {B:List Ty} {S:Nat} (hW:S<2 ^ 37) (hlS:∀l,(A4 (AU A6) f (inst (B.length::σ) 0 C5) (B++[b])).1=some l->∀t∈l,size t+BX (·==(B.length:Int)) t*wt b<=S) (hσ:∀x∈σ,x<B.length)
  (ZQ:∀(B:List Ty),(A4 (AU A6) f b B).2.length<=M->Dk ml A6 (A4 (AU A6) f b B).1->∀x,BP (ren b) x->∀s,BI s->WG R e ml 44 [x] (A4 (AU A6) f b B) B s)
  (ihy:(A4 (AU A6) f (inst (B.length::σ) 0 C5) (B++[b])).2.length<=M->Dk ml A6 (A4 (AU A6) f (inst (B.length::σ) 0 C5) (B++[b])).1->∀x,BP (ren (inst (B.length::σ) 0 C5)) x->∀s,BI s->WG R e ml 44 [x] (A4 (AU A6) f (inst (B.length::σ) 0 C5) (B++[b])) (B++[b]) s)
  (ij:(dK A6 (A4 (AU A6) f) b (inst σ 1 C5) B).2.length<=M) (hF:Dk ml A6 (dK A6 (A4 (AU A6) f) b (inst σ 1 C5) B).1) {n:List UInt8} {i:Int} {x:AV} (hx:BP (ren (.mk 6 n i [b,inst σ 1 C5])) x) {s:AQ} (hs:BI s):WG R e ml 44 [x] (dK A6 (A4 (AU A6) f) b (inst σ 1 C5) B) B s:=by
 intro L d hro Ee hE hd;have le:=(BH.1 hE).1;have same:s.bs.set e [d,AG ml]=s.bs:=by grind[List.set_getElem_self]
 have SP:sub B.length 0 (inst σ 1 C5)=inst (B.length::σ) 0 C5:=Jt B.length σ C5 0 hv AA;have AYf:ren (.mk 6 n i [b,inst σ 1 C5])=.mk 6 n i [b,ren (inst σ 1 C5)]:=by grind[Gw,CA,Jc]
 have hxc:=hx;rw[AYf] at hx;obtain⟨a,rfl,ha⟩:=hx;obtain⟨_,_,hxi⟩:=hxc.cells;generalize P3:dK A6 (A4 (AU A6) f) b (inst σ 1 C5) B=o at ij hF ⊢;rw[dK,SP] at P3;have hpy:=Fc (A8:=AU A6) f (inst (B.length::σ) 0 C5) (B++[b]);have hall:=Gn (A8:=AU A6) f (inst (B.length::σ) 0 C5) (B++[b]) M (qM M);have hpat:=Pr (A8:=AU A6) f (inst (B.length::σ) 0 C5) (B++[b]);have M3:=Jz (A8:=AU A6) AR f (inst (B.length::σ) 0 C5) (B++[b]);obtain⟨z1,z2,z3,z4⟩:=Jb (B.length::σ) C5 0 hv;rw[z3] at hall;have jA:E7 (λi=>qM M i&&decide (i<((B++[b]).length:Nat))) (inst (B.length::σ) 0 C5)=true->True:=λ_=>trivial
 rcases hg:A4 (AU A6) f (inst (B.length::σ) 0 C5) (B++[b]) with ⟨r,B1⟩
 rw[hg] at P3 ihy hpy hall hpat M3 hlS;simp only at P3 ihy hpy hall hpat M3 hlS;have hcp:∀l,B1<+:(CY (AU A6) (B6 (AU A6) (A4 (AU A6) f b) B.length) l [] B1).2:=λl=>Ij (λc B=>LK (λB=>Fc f b B) _ c B) l [] B1
 have WH:B1.length<=M:=AB
 have hFy:Dk ml A6 r:=by
  cases r with
  | none=>
   rw[<-P3] at hF;exact hF
  | some r=>exact hF.some _
 have hBl:B.length+1<=B1.length:=AB;refine m44 AR ?_;rw[hro,Ee];have g0:=Ax s.bs [AG 6,SS n,AG i,a];have gE:=Ai hE [AG 6,SS n,AG i,a];have hT:(s.bs++[[AG 6,SS n,AG i,a]]).take s.bs.length=s.bs.set e [d,AG ml]:=AB;have hok:BI ⟨s.bs++[[AG 6,SS n,AG i,a]],s.ts⟩:=BI.app (s:=s) hs (hxi _);refine NB ha false rfl (dJ (Ay (A0 (Ay (A0 (Ay (A0 (A9 ?_))))))));generalize s.bs++[[AG 6,SS n,AG i,a]]=bs at g0 gE hT hok;have hZ:BP (.mk 0 [] 0 []) (.agg [(AG 0),(SS []),(AG 0),(.AE [])]):=⟨.AE [],rfl,.inl (.AE _)⟩;refine C1 (AX gE) (AO (AX gE) (AZ (off:=0) gE rfl (Aq (n:=B.length) (by rw[hd.A1.BA,Aa]) (C1 (AX gE) (AO (AX gE) (AZ (off:=0) gE rfl (AO (AX g0) (AZ (off:=3) g0 rfl ?_))))))));refine BS ha (row:=Aj b) AA rfl (Al _) AA (Ca (Aq (n:=B.length) (by rw[hd.A1.BA,Aa]) (E9 hZ ⟨⟨rfl,rfl,rfl,AI⟩,AH3 hd rfl AA λd2 I6 w1 w2=>?_⟩)));refine C1 (AX gE) (AO (AX gE) (C2 gE AD w1.A1.cells (AN _) w1.A1.ok (.inl (AN _)) ?_));have AYg:[d,AG ml].set 0 d2=[d2,AG ml]:=rfl;rw[AYg];have hne:e≠s.bs.length:=AA;have sL:(bs.set e [d2,AG ml])[e]?=some [d2,AG ml]:=BZ gE;have sM:(bs.set e [d2,AG ml])[s.bs.length]?=some [AG 6,SS n,AG i,a]:=BQ g0 hne;have Hh:(bs.set e [d2,AG ml]).take s.bs.length=s.bs.set e [d2,AG ml]:=by grind[EU]
 have Zd:BI ⟨bs.set e [d2,AG ml],I6⟩:=BI.set (s:=⟨bs,s.ts⟩) hok (by simp[Ah,Aw,w1.A1.Aw]) _;generalize bs.set e [d2,AG ml]=b2 at sL sM Hh Zd;refine AO (AX sM) (AZ (off:=3) sM rfl (BS ha (row:=Aj (ren (inst σ 1 C5))) AA rfl (Al _) AA (Ca ?_)));refine AL (LI hn B.length AA) ?_;rintro _ rfl;have Pz:FH (2 ^ 40) (inst σ 1 C5)=true:=by grind[IV,Gq]
 have AYh:size (inst σ 1 C5)<2 ^ 38:=by grind[Jb]
 refine AL (SQ (v:=B.length) AYh Pz (UY σ C5 1 hv) (A7.Bi _)) ?_;rintro y hy;rw[SP] at hy;obtain⟨w,s',⟨d3,Nl,q1,q2,q3,rfl⟩,q4⟩:=ihy WH hFy y hy.Fj ⟨b2,I6⟩ Zd (Ce (env R) 44 0 0 0) d2 rfl rfl sL w1;have QV:(b2.set e [d3,AG ml]).take s.bs.length=s.bs.set e [d3,AG ml]:=by simp[*,EU]
 have SU:(b2.set e [d3,AG ml])[e]?=some [d3,AG ml]:=BZ sL;have hch:Cd d d3 s.ts Nl:=w2.trans q3;have AH4:BI ⟨b2.set e [d3,AG ml],Nl⟩:=BI.set (s:=⟨b2,I6⟩) Zd (by simp[Ah,Aw,q2.A1.Aw]) _;have MN:Tel.Dg a a=true:=BE.Dg (es:=[b,ren (inst σ 1 C5)]) ha;refine⟨_,_,q4,?_⟩
 have conds:∀{K:Prop} ,K->(E2 ⟨b2,I6⟩ (.ptr s.bs.length 0) 3 λv=>Tel.Dg v (.ptr s.bs.length (0+3))=true)/\(D5 (env R) ⟨b2,I6⟩ none (.ptr s.bs.length (0+3)) λv=>Tel.Dg v a=true)/\(NC ⟨b2,I6⟩ 4 a (AG 1) λv=>Tel.Dg v (.Cw (Aj (ren (inst σ 1 C5))) 0)=true)/\(D5 (env R) ⟨b2,I6⟩ (some 4) (.Cw (Aj (ren (inst σ 1 C5))) 0) λv=>Tel.Dg v (.agg ((Aj (ren (inst σ 1 C5))).map .pv))=true)/\K:=λhK=>
  ⟨AO (AX sM) (EA _ _),AZ (off:=3) sM rfl MN,BS ha (row:=Aj (ren (inst σ 1 C5))) AA rfl (Al _) AA (by simp[Tel.Dg,PX]),Ca (M7 _),hK⟩
 cases r with
 | none=>
  cases q1;simp only at P3;subst P3;exact B9 rfl (B9 rfl (conds (Ay (S7 (FA hs QV (q2.A1.Aw _) (r:=none) rfl λw hw=>⟨d3,Nl,hw,q2,hch,rfl⟩)))))
 | some l=>
  obtain⟨a3,rfl,z7⟩:=q1;refine B9 rfl (B9 rfl (conds (A9 ?_)));simp only at P3;have SN:l.length<=A6:=AB
  have fN:=hall l (λi h1 h2=>by grind) (Gq (λx hx=>by
   simp only[AH,Cy,Bd,Bt,Bz]
   grind) C5 0 hv) rfl WH
  have Sr:=hpat l z4 rfl;have hvB:(B++[b])[B.length]?=some b:=AD;have hxb:ExB A6 B.length M (wt b) (B++[b]) (qM M) (A4 (AU A6) f b):=wU KA hcb AD;have hrb:ren b=b:=Jc b KA;have fQ:=mA (R:=R) hn (e:=e) (S:=S) (λi hi=>by grind) JU hW hxb hvB (λB s hs' _ iP hF'=>ZQ B iP hF' _ (by rw[hrb]; exact(A7.Bi b).Fj) s hs')
  have hFk:Dk ml A6 (CY (AU A6) (B6 (AU A6) (A4 (AU A6) f b) B.length) l [] B1).1:=by
   rcases hk:CY (AU A6) (B6 (AU A6) (A4 (AU A6) f b) B.length) l [] B1 with ⟨_|out,B2⟩
   .rw[hk] at P3
    rw[<-P3] at hF;exact hF
   .exact hF.some _
  have D0:∀o,CY (AU A6) (B6 (AU A6) (A4 (AU A6) f b) B.length) l [] B1=o->o.2.length<=M:=AB
  obtain⟨w4,s4,⟨d4,sO,k1,k2,k3,rfl⟩,k4⟩:=ABA (R:=R) hn (e:=e) (M:=M) (W:=wt b) (S:=S) (B0:=B++[b]) (q:=qM M) (λi hi=>by grind) JU hW (λB=>Fc f b B) SN z7 (λt ht=>by
   obtain⟨y1,y2⟩:=fN t ht;exact⟨y1,Sr t ht,hlS l rfl t ht⟩) fQ hpy (D0 _ rfl) hFk AH4 (Ce (env R) 44 0 0 0) d3 rfl rfl SU q2
  have sK:((b2.set e [d3,AG ml]).set e [d4,AG ml]).take s.bs.length=s.bs.set e [d4,AG ml]:=by simp[*,EU]
  have gE4:((b2.set e [d3,AG ml]).set e [d4,AG ml])[e]?=some [d4,AG ml]:=BZ SU;have APc:=hch.trans k3;refine⟨_,_,k4,?_⟩;rcases hk:CY (AU A6) (B6 (AU A6) (A4 (AU A6) f b) B.length) l [] B1 with ⟨ro,B2⟩
  rw[hk] at k1 k2 P3;cases ro with
  | none=>
   cases k1;simp only at P3;subst P3;exact B9 rfl (B9 rfl (S7 (FA hs sK (k2.A1.Aw _) (r:=none) rfl λw hw=>⟨d4,sO,hw,k2,APc,rfl⟩)))
  | some out=>
   obtain⟨a5,rfl,ha5⟩:=k1;simp only at P3;subst P3;exact B9 rfl (B9 rfl (dI ha5 gE4 hF λw hw=>FA hs sK (k2.A1.Aw _) hw λw hw=>⟨d4,sO,hw,k2,APc,rfl⟩))
end
def ex2:List Nat->Nat
 | [_,c]=>c
 | _=>0
mutual
def lv:Ty->Nat
 | .mk k _ _ ts=>bif k==7||k==5 then 1 else bif k==3 then(lvl ts).sum else bif k==4 then(lvl ts).foldr max 0 else bif k==6 then ex2 (lvl ts) else 0
def lvl:List Ty->List Nat
 | []=>[]
 | t::l=>lv t::lvl l
end
theorem Ze:∀l:List Ty,lvl l=l.map lv
 | []=>rfl
 | t::l=>by rw[lvl,Ze l]; rfl
theorem max_mem:∀{l:List Nat} {n:Nat},n∈l->n<=l.foldr max 0
 | a::l,n,h=>by
  rw[List.foldr_cons];rcases A5.1 h with rfl|h
  .omega
  .have:=max_mem h
   omega
mutual
theorem S8 (σ:List Nat):∀(t:Ty) (u:Nat),valid t=true->lv (inst σ u t)=lv t
 | .mk k n i ts,u,hv=>by
  rcases Dz σ u hv with ⟨rfl,rfl,rfl,h0,h1,⟨v,h2,h3⟩|h3⟩|⟨b5,h3⟩
  .rw[h3]
   rfl
  .rw[h3]
  .simp only[valid,AH] at hv
   rw[h3,lv,lv,dL σ ts u k 0 hv.2]
theorem dL (σ:List Nat):∀(l:List Ty) (u:Nat) (k:Int) (j:Nat),BC l=true->lvl (Dd σ u k j l)=lvl l
 | [],_,_,_,_=>rfl
 | t::l,u,k,j,hv=>by
  simp only[BC,AH] at hv;rw[Dd,lvl,lvl,S8 σ t _ hv.1,dL σ l u k (j+1) hv.2]
end
mutual
theorem dM {m q:Int->Bool} {b:Ty} (hb:BX q b=0):∀(t:Ty) (k:Nat),BX q (Ip m b t k)<=BX q t
 | .mk c n i ts,k=>by
  have ih:=Xd (m:=m) hb ts k
  grind[Ip,BX]
theorem Xd {m q:Int->Bool} {b:Ty} (hb:BX q b=0):∀(l:List Ty) (k:Nat),Cc q (KG m b l k)<=Cc q l
 | [],_=>AY _
 | t::l,k=>by
  rw[KG];cases decide (k<BX m t) with
  | true=>
   have:=dM (m:=m) hb t k
   grind[Cc]
  | false=>
   have:=Xd (m:=m) hb l (k-BX m t)
   grind[Cc]
end
section
variable {A8:Nat->Bool}
theorem Xe {ex:List Ty->Fw} {q:Int->Bool} {v:Nat} (hx:∀B,B.length<=(ex B).2.length) {lo M:Nat} (hr:∀B r,lo<=B.length->(ex B).1=some r->(ex B).2.length<=M->∀c∈r,BX q c=0) :
  ∀(f:Nat) (t:Ty) (B r:List Ty),lo<=B.length->(CN A8 ex v f t B).1=some r->(CN A8 ex v f t B).2.length<=M->∀p∈r,BX q p<=BX q t
 | 0,t,B,r,_,h,_=>by grind[CN]
 | f+1,t,B,r,hlo,h,hM=>by
  have h1:=hx B;have h2:=hr B;rw[CN] at h hM;cases ho:DT v false t with
  | false=>grind
  | true=>
   rw[ho] at h hM;simp only[AM] at h hM;rcases he:ex B with ⟨_|cs,B1⟩
   .grind
   .rw[he] at h hM h1 h2
    simp only at h hM h1 h2;have h3:=Ii (A8:=A8) (g:=λc B=>CN A8 ex v f (Ip (·==(v:Int)) c t 0) B) (λc B=>IA hx v f _ B) cs [] B1;have h4:=h2 cs hlo rfl AA;refine Jw (λc B=>IA hx v f _ B) (lo:=lo) cs [] B1 r ?_ AA h hM AD;intro c hc B' r' AAd h' iP p hp;exact BK (Xe hx hr f _ B' r' AAd h' iP p hp) (dM (h4 c hc) t 0)
theorem dN:∀(f:Nat) (t:Ty) (σ:List Nat) (B:List Ty) (M v:Nat) (r:List Ty),valid t=true->CP σ.length t=true->v<B.length->(∀x∈σ,x<B.length) ->
  (A4 A8 f (inst σ 0 t) B).1=some r->(A4 A8 f (inst σ 0 t) B).2.length<=M->∀p∈r,BX (·==(v:Int)) p<=lv t
 | 0,_,_,_,_,_,_,_,_,_,_,h,_=>by cases h
 | f+1,.mk k n i ts,σ,B,M,v,r,hv,hc,hvB,hσ,h,hM=>by
  have ih:=dN f;have hf:=λt B=>Jy (A8:=A8) f t B
  have LY:=hv;simp only[valid,AH] at hv
  have part:∀(hk:k≠6) (aP:k≠5),∀t∈ts.map (inst σ 0),∀(B' r:List Ty),B.length<=B'.length->(A4 A8 f t B').1=some r->(A4 A8 f t B').2.length<=M->∀p∈r,BX (·==(v:Int)) p<=lv t:=by
   intro hk aP t ht B' r hl h hM;obtain⟨t0,aQ,rfl⟩:=CR.1 ht;rw[S8 σ t0 0 (Bw hv.2 aQ)];exact ih t0 σ B' M v r (Bw hv.2 aQ) (Fg hk (DZ hc aP) aQ) AA (λx hx=>GI (hσ x hx) hl) h hM
  have emap:BC ts=true->(ts.map (inst σ 0)).map lv=ts.map lv:=by grind[List.map_congr_left,S8,Bw]
  rcases Dz σ 0 LY with ⟨rfl,rfl,rfl,_,_,⟨x,h2,h3⟩|h3⟩|⟨b5,h3⟩
  .rw[h3,A4] at h
   have:(7:Int)==7:=rfl;simp only[show((7:Int)==7)=true from rfl,Dv,AM] at h;cases hb:A8 1 with
   | true=>grind
   | false=>
    rw[hb] at h;cases h;intro p hp;rw[Df.1 hp,BX,lv];simp only[show((7:Int)==7)=true from rfl,AM,show((5:Int)==7||(5:Int)==5)=true from rfl];cases (x:Int)==(v:Int) <;> simp
  .rw[h3,A4] at h
   simp only[show((5:Int)==0||(5:Int)==2||(5:Int)==7)=false from rfl,show((5:Int)==4)=false from rfl,show((5:Int)==3)=false from rfl,show((5:Int)==6)=false from rfl,AK] at h;cases hb:A8 0 with
   | true=>grind
   | false=>grind
  .rw[h3,A4] at h hM
   cases h0:k==0||k==2||k==7 with
   | true=>
    grind[G1,BX]
   | false=>
    rw[h0] at h hM;simp only[AK] at h hM;cases h4:k==4 with
    | true=>
     have hk:k=4:=AB;subst hk;rw[h4,E5 (k:=4) AI] at h hM;simp only[AM] at h hM
     have key:=M4 hf (P:=λp=>BX (·==(v:Int)) p<=lv (.mk 4 n i ts)) (lo:=B.length) (M:=M) (ts.map (inst σ 0)) [] true B (λt hm B' r hl h hM p hp=>BK (part AI AI t hm B' r hl h hM p hp) (by
      have h5:lv t∈(ts.map (inst σ 0)).map lv:=Eb hm;rw[emap hv.2] at h5;simp[*,lv,Ze,max_mem])) (AY _)
     grind
    | false=>
     rw[h4] at h hM;simp only[AK] at h hM;cases MW:k==3 with
     | true=>
      have hk:k=3:=AB;subst hk;rw[MW,E5 (k:=3) AI] at h hM;simp only[AM] at h hM;have key:=λr=>Pm hf (P:=λw p=>BX (·==(v:Int)) p<=w) (w:=lv) (lo:=B.length) (M:=M) (ts.map (inst σ 0)) [] [] B r (part AI AI) (AY _)
      rcases hs:E4 (A4 A8 f) (ts.map (inst σ 0)) [] B with ⟨_|ls,B1⟩
      .grind
      .rw[hs] at h hM key
       simp only at h hM key;cases he:ls.any List.isEmpty with
       | true=>
        grind
       | false=>
        rw[he] at h hM;simp only[AK] at h hM;cases hcc:DY A8 ls [[]] with
        | none=>grind
        | some all=>
         rw[hcc] at h hM;simp only at h hM;cases hb:A8 all.length with
         | true=>grind
         | false=>
          rw[hb] at h;cases h;intro p hp;obtain⟨a,ha,rfl⟩:=CR.1 hp;have h5:=Q3 (q:=(·==(v:Int))) ls _ _ all 0 (key ls rfl hM Ap) hcc (by simp[Cc]) a ha
          grind[BX,lv,Ze]
     | false=>
      rw[MW] at h hM;simp only[AK] at h hM;cases ZD:k==6 with
      | false=>
       grind
      | true=>
       have:k=6:=AB;subst this;rcases LF hv.1 with h' | h' | h' | h' | h' | h' | ⟨_,rfl,rfl,b,body,rfl,hcb⟩
       iterate 6 exact absurd h' AD
       simp only[BC,AH] at hv;obtain⟨_,KA,OW,_⟩:=hv;have eb:inst σ (0+EE 6 0) b=b:=JP σ b 0 KA hcb
       have hcy:CP (1+σ.length) body=true:=by
        have:=DZ hc AI;simp only[EF,AH] at this;have h2:=this.2.1;rw[NV];exact h2
       have SP:sub B.length 0 (inst σ 1 body)=inst (B.length::σ) 0 body:=Jt B.length σ body 0 OW AA;have e1:inst σ (0+EE 6 (0+1)) body=inst σ 1 body:=rfl;rw[ZD] at h hM;simp only[AM,Dd,eb,bX] at h hM;rw[e1,SP] at h hM;have hfl:=Jy (A8:=A8) f b
       have hbc:∀B' r,B.length<B'.length->(A4 A8 f b B').1=some r->(A4 A8 f b B').2.length<=M->∀c∈r,BX (·==(v:Int)) c=0:=by
        intro B' r hl h hM c Kv
        have jA:∀q:Int->Bool,E7 q b=true:=λq=>by
         have:=Gq (q:=q) (σ:=[]) (λx hx=>by grind) b 0 KA
         grind[C8]
        have h5:=Gn f b B' M (λi=>!(i==(v:Int))) r (λi h3 h4=>by grind) (jA _) h hM c Kv;exact(Ph (q:=λi=>!(i==(v:Int))) (v:=v) AD c true h5.1).2
       have hy:=λl=>ih body (B.length::σ) (B++[b]) M v l OW AB AB (λx hx=>by
        rw[Bd,Bt,Bz]
        grind)
       have ADr:=Jy (A8:=A8) f (inst (B.length::σ) 0 body) (B++[b]);generalize A4 A8 f (inst (B.length::σ) 0 body) (B++[b])=o at h hM hy ADr;rcases o with ⟨_|l,B1⟩
       .cases h
       .simp only at h hM hy ADr
        have h6:=Ii (A8:=A8) (g:=B6 A8 (A4 A8 f b) B.length) (λa B'=>Ja hfl B.length a B') l [] B1;have key:=λr=>Jw (A8:=A8) (g:=B6 A8 (A4 A8 f b) B.length) (λa B'=>Ja hfl B.length a B') (P:=λp=>BX (·==(v:Int)) p<=lv body) (lo:=B.length+1) (M:=M) l [] B1 r
        generalize CY A8 (B6 A8 (A4 A8 f b) B.length) l [] B1=o2 at h hM h6 key;rcases o2 with ⟨_|out,B2⟩
        .cases h
        .simp only at h hM h6 key
         cases hb:A8 out.length with
         | true=>grind
         | false=>
          rw[hb] at h;cases h;have e2:lv (.mk 6 [] 0 [b,body])=lv body:=rfl;rw[e2];have SN:=hy l rfl AA;refine key r ?_ AB rfl hM AD;intro a ha B' r' hlo h5 h7 p hp;have ha1:=SN a ha;rw[B6] at h5 h7;cases ho:DT B.length true a with
          | true=>
           grind
          | false=>
           rw[ho] at h5 h7;exact BK (Xe hfl (lo:=B.length+1) (M:=M) (λB' r hl=>hbc B' r AA) _ a B' r' hlo h5 h7 p hp) ha1
end
section
variable {A8:Nat->Bool}
theorem Uq {α:Type} {g:α->List Ty->Fw} (hg:∀a B,(g a B).2=B):∀(l:List α) (out B:List Ty),(CY A8 g l out B).2=B
 | [],_,_=>rfl
 | a::l,out,B=>by
  have h:=hg a B;rw[CY];rcases hr:g a B with ⟨_|r,B1⟩
  .grind
  .rw[hr] at h
   simp only at h ⊢;subst h;cases A8 (out++r).length with
   | true=>rfl
   | false=>exact Uq hg l _ _
theorem wV {ex:List Ty->Fw} {a v:Nat} (ha:∀B,(ex B).2.length<=B.length+a) (f:Nat) (hf:f<=1) (t:Ty) (B:List Ty):(CN A8 ex v f t B).2.length<=B.length+a:=by
 rcases f with _|f
 all_goals grind[CN,Uq]
theorem dP {ex:List Ty->Fw} {a v:Nat} (ha:∀B,(ex B).2.length<=B.length+a) (hc:∀B r,(ex B).1=some r->r.length<=1):∀(f:Nat) (t:Ty) (B:List Ty),(CN A8 ex v f t B).2.length<=B.length+a*f
 | 0,t,B=>by grind[CN]
 | f+1,t,B=>by
  have h:=ha B;have h2:=hc B;rw[Sn,CN];cases DT v false t with
  | false=>simp
  | true=>
   simp only[AM];rcases hr:ex B with ⟨_|cs,B1⟩
   .grind
   .rw[hr] at h h2
    simp only at h h2 ⊢;have h3:=h2 cs rfl;rcases cs with _|⟨x,_|⟨y,cs⟩⟩
    .grind[CY]
    .have ih:=dP (v:=v) ha hc f (Ip (·==(v:Int)) x t 0) B1
     rw[CY];rcases Ng:CN A8 ex v f (Ip (·==(v:Int)) x t 0) B1 with ⟨_|r,B2⟩
     .grind
     .rw[Ng] at ih
      simp only at ih ⊢;cases A8 ([]++r).length with
      | true=>grind
      | false=>grind[CY]
    grind
end
theorem Xf {α:Type} {A6 a q K:Nat} {B0:List Ty} {g:α->List Ty->Fw} (hpre:∀x B,B<+:(g x B).2):∀(l:List α) (out B:List Ty),(∀x∈l,∀B,B0<+:B->(∀r,(g x B).1=some r->r.length=K/\r.length<=A6+1/\(g x B).2.length+a<=B.length+a*K)/\((g x B).1=none->(g x B).2.length<=B.length+q))->B0<+:B->out.length<=A6 ->
  (∀r,(CY (AU A6) g l out B).1=some r->r.length=out.length+l.length*K/\(CY (AU A6) g l out B).2.length+a*l.length<=B.length+a*(K*l.length)) /\
  ((CY (AU A6) g l out B).1=none->∃m,out.length+m*K<=A6/\((CY (AU A6) g l out B).2.length<=B.length+a*(m*K)+q\/(K<=A6+1/\(CY (AU A6) g l out B).2.length<=B.length+a*(m*K)+a*K)))
 | [],out,B,_,_,_=>by grind[CY]
 | x::l,out,B,hg,hB,ho=>by
  have h1:=hg x AD B hB;have hp:=hpre x B;rw[CY];rcases hr:g x B with ⟨_|r,B1⟩
  .rw[hr] at h1
   refine⟨λr h=>(by cases h),λ_=>⟨0,AA,.inl ?_⟩⟩
   grind
  .rw[hr] at h1 hp
   obtain⟨e1,e2,e3⟩:=h1.1 r rfl;simp only at e3 hp ⊢;cases hb:AU A6 (out++r).length with
   | true=>
    refine⟨λr h=>(by cases h),λ_=>⟨0,AA,.inr ⟨AA,?_⟩⟩⟩
    grind
   | false=>
    simp only[AK];have hb':out.length+r.length<=A6:=AB;obtain⟨i1,i2⟩:=Xf hpre l (out++r) B1 (λy hy=>hg y AB) (hB.trans hp) AB;refine⟨λs hs=>?_,λhs=>?_⟩
    .grind[Nat.mul_add]
    .obtain⟨m,j1,j2⟩:=i2 hs
     rw[Bd] at j1;refine⟨m+1,AB,?_⟩
     grind
def qF (f:Nat):Nat:=f+min f 6*66
theorem Xg {c f:Nat} (hc:2<=c) (h:c ^ f<=33):f<=5:=by
 rcases Fl f 6 with h1|h1
 .omega
 .have h2:c ^ 6<=c ^ f:=Nat.pow_le_pow_right AA h1
  have h3:2 ^ 6<=c ^ 6:=Nat.pow_le_pow_left hc 6;omega
structure ExC (v a c:Nat) (B0:List Ty) (ex:List Ty->Fw):Prop where
 pre:∀B,B<+:(ex B).2
 len:∀B,(ex B).2.length<=B.length+a
 res:∀B r,B0<+:B->(ex B).1=some r->r.length=c/\∀x∈r,BX (·==(v:Int)) x=0/\DT v true x=false/\pat x=true
theorem Xh {ex:List Ty->Fw} {v a c:Nat} {B0:List Ty} (hx:ExC v a c B0 ex) (hc:2<=c):∀(f:Nat) (t:Ty) (B:List Ty),BX (·==(v:Int)) t=f->DT v true t=false->pat t=true->B0<+:B ->
  (∀r,(CN (AU 32) ex v f t B).1=some r->r.length=c ^ f/\r.length<=32+1/\(CN (AU 32) ex v f t B).2.length+a<=B.length+a*c ^ f)/\((CN (AU 32) ex v f t B).1=none->(CN (AU 32) ex v f t B).2.length<=B.length+a*qF f)
 | 0,t,B,_,_,_,_=>by grind[CN]
 | f+1,t,B,M1,hoc,hpt,hB=>by
  have M3:=λr=>Q6 (A6:=32) (ex:=ex) (v:=v) (f+1) t B r
  have h1:=hx.len B;have h2:=hx.res B;have hp:=hx.pre B;have ho:DT v false t=true:=by grind[ZR]
  rw[CN,ho] at M3 ⊢;simp only[AM] at M3 ⊢
  have hq:a*qF f+a<=a*qF (f+1):=by
   rw[<-Sn];refine Eu _ ?_
   grind[qF]
  rcases hr:ex B with ⟨_|cs,B1⟩
  .grind
  .rw[hr] at h1 h2 hp M3
   simp only at h1 h2 hp M3 ⊢;obtain⟨Ff,hcs⟩:=h2 cs hB rfl
   obtain⟨i1,i2⟩:=Xf (A6:=32) (a:=a) (q:=a*qF f) (K:=c ^ f) (B0:=B0) (g:=λx B=>CN (AU 32) ex v f (Ip (·==(v:Int)) x t 0) B) (λx B=>IB hx.pre v f _ B) cs [] B1 (by
    intro x hxm B' hB';obtain⟨x1,x2,x3⟩:=hcs x hxm;obtain⟨r1,r2⟩:=Nk (m:=(·==(v:Int))) (b:=x) t 0 AA;exact Xh hx hc f _ B' AA (ZS x2 t 0 hoc) (S4 x3 t 0 hpt) hB') (hB.trans hp) AD
   refine⟨λr h=>?_,λh=>?_⟩
   .obtain⟨j1,j2⟩:=i1 r h
    refine⟨?_,M3 r h,?_⟩
    .rw[j1,Ff,Sm,Bz,CQ,Nat.mul_comm]
    .have e1:a*(c ^ f*cs.length)=a*c ^ (f+1):=by rw[Ff,Sm]
     have e2:a*2<=a*cs.length:=Eu _ AA;omega
   .obtain⟨m,j1,j2⟩:=i2 h
    rw[Bz,CQ] at j1;have e1:a*(m*c ^ f)<=a*32:=Eu _ j1;rcases Nat.eq_zero_or_pos m with rfl|hm
    .rcases j2 with j2|⟨j2,j3⟩
     .omega
     .have hf5:=Xg hc j2
      have e2:a*c ^ f<=a*33:=Eu _ j2;have e3:a*34<=a*qF (f+1):=Eu _ (by grind[qF]);omega
    .have hk:c ^ f<=33:=by
      have:1*c ^ f<=m*c ^ f:=B5 _ hm;omega
     have hf5:=Xg hc hk;have e3:a*(33+qF f+33)<=a*qF (f+1):=Eu _ (by grind[qF]);rw[So,So] at e3;have e2:a*c ^ f<=a*33:=Eu _ hk;omega
def Ur:Ty->Bool
 | .mk k _ _ _=>!(k==3||k==4||k==6)
def nF (t:Ty):Nat:=bif Ur t then 1 else 33*lv t+500
def ex9:List Nat->List Nat->Nat
 | [b,c],[_,f]=>1+c+f*b
 | _,_=>0
mutual
def nb:Ty->Nat
 | .mk k _ _ ts=>bif k==6 then ex9 (nbl ts) (ts.map nF) else bif k==3||k==4 then(nbl ts).sum else 0
def nbl:List Ty->List Nat
 | []=>[]
 | t::l=>nb t::nbl l
end
theorem RB:∀l:List Ty,nbl l=l.map nb
 | []=>rfl
 | t::l=>by rw[nbl,RB l]; rfl
theorem Xi {ex:List Ty->Fw} {v a c n:Nat} {B0:List Ty} (hx:ExC v a c B0 ex) (hc:2<=c):∀(l out B:List Ty),(∀t∈l,pat t=true/\BX (·==(v:Int)) t<=n)->B0<+:B->out.length<=32 ->
  (∀r,(CY (AU 32) (B6 (AU 32) ex v) l out B).1=some r->(CY (AU 32) (B6 (AU 32) ex v) l out B).2.length+a*out.length<=B.length+a*r.length/\r.length<=32) /\
  ((CY (AU 32) (B6 (AU 32) ex v) l out B).1=none->(CY (AU 32) (B6 (AU 32) ex v) l out B).2.length+a*out.length<=B.length+a*(n+461))
 | [],out,B,_,_,ho=>by grind[CY]
 | t::l,out,B,hl,hB,ho=>by
  obtain⟨t1,t2⟩:=hl t AD;have hp:=LK (A8:=AU 32) hx.pre v t B;have h33:a*out.length<=a*32:=Eu _ ho
  have key:(∀r,(B6 (AU 32) ex v t B).1=some r->r.length<=33/\(B6 (AU 32) ex v t B).2.length<=B.length+a*r.length)/\((B6 (AU 32) ex v t B).1=none->(B6 (AU 32) ex v t B).2.length<=B.length+a*(n+396)):=by
   rw[B6];cases hoc:DT v true t with
   | true=>
    simp
   | false=>
    simp only[AK];obtain⟨f1,f2⟩:=Xh hx hc _ t B rfl hoc t1 hB;refine⟨λr h=>?_,λh=>?_⟩
    .grind
    .have:=f2 h
     have e:a*qF (BX (·==(v:Int)) t)<=a*(n+396):=Eu _ (by grind[qF]);omega
  rw[So] at key ⊢;rw[CY];rcases hr:B6 (AU 32) ex v t B with ⟨_|r,B1⟩
  .grind
  .rw[hr] at key hp
   obtain⟨k1,k2⟩:=key.1 r rfl;simp only at k2 hp ⊢;have h34:a*r.length<=a*33:=Eu _ k1;cases hb:AU 32 (out++r).length with
   | true=>
    grind
   | false=>
    simp only[AK];obtain⟨i1,i2⟩:=Xi hx hc l (out++r) B1 (λy hy=>hl y AB) (hB.trans hp) AB;rw[Bd,So] at i1 i2
    grind
theorem dQ {ex:List Ty->Fw} {v a n:Nat} (ha:∀B,(ex B).2.length<=B.length+a) (hc:∀B r,(ex B).1=some r->r.length<=1):∀(l out B:List Ty),(∀t∈l,BX (·==(v:Int)) t<=n) ->
  (CY (AU 32) (B6 (AU 32) ex v) l out B).2.length<=B.length+a*n*l.length
 | [],out,B,_=>by grind[CY]
 | t::l,out,B,hl=>by
  have ht:=hl t AD
  have key:(B6 (AU 32) ex v t B).2.length<=B.length+a*n:=by
   rw[B6];cases DT v true t with
   | true=>simp
   | false=>
    have:=dP (A8:=AU 32) (v:=v) ha hc (BX (·==(v:Int)) t) t B;have e:a*BX (·==(v:Int)) t<=a*n:=Eu _ ht
    grind
  rw[CY,Bt,Sn];rcases hr:B6 (AU 32) ex v t B with ⟨_|r,B1⟩
  .grind
  .rw[hr] at key
   simp only at key ⊢;cases AU 32 (out++r).length with
   | true=>grind
   | false=>
    have:=dQ ha hc l (out++r) B1 (λy hy=>hl y AB)
    grind
theorem wW {ex:List Ty->Fw} {v a:Nat} (ha:∀B,(ex B).2.length<=B.length+a) {l:List Ty} (hl:l.length<=1) (hc:∀t∈l,BX (·==(v:Int)) t<=1) (B:List Ty):(CY (AU 32) (B6 (AU 32) ex v) l [] B).2.length<=B.length+a:=by
 rcases l with _|⟨t,_|⟨u,l⟩⟩
 .grind[CY]
 .have ht:=hc t AD
  have key:(B6 (AU 32) ex v t B).2.length<=B.length+a:=by
   rw[B6];cases DT v true t with
   | true=>simp
   | false=>simp[*,wV]
  grind[CY]
 grind
theorem qX {b:Ty} {f:Nat} (hv:valid b=true) (hc:CP 0 b=true) (hs:CM (bw b)):(∀B,(A4 (AU 32) f b B).1=none)\/∃c,∀B r,(A4 (AU 32) f b B).1=some r->r.length=c:=by
 have h:=ZK (A8:=AU 32) rfl rfl f b [] hv hc Et hs
 have h2:∀B,LC (λB' b p=>∃φ,Rl false 0 B' B.length B'.length [] b p φ) B (DG (AU 32) f b) (A4 (AU 32) f b B):=by
  intro B;have:=h B (λx hx=>by grind)
  grind[C8]
 cases hb:DG (AU 32) f b with
 | none=>
  left
  intro B;have:=h2 B;rw[hb] at this;rcases he:A4 (AU 32) f b B with ⟨_|r,B1⟩
  .rfl
  .rw[he] at this
   exact this.elim
 | some l=>
  right
  refine⟨l.length,λB r hr=>?_⟩;have:=h2 B;rw[hb] at this;rcases he:A4 (AU 32) f b B with ⟨_|r',B1⟩
  .grind
  .rw[he] at hr this
   cases hr;exact this.2.length.symm
theorem Zf {ex:Ty->List Ty->Fw} {n:Ty->Nat} {lo:Nat}:∀(l out:List Ty) (ok:Bool) (B:List Ty),(∀t∈l,∀B',lo<=B'.length->B'.length<=(ex t B').2.length/\(ex t B').2.length<=B'.length+n t)->lo<=B.length->(Gm ex l out ok B).2.length<=B.length+(l.map n).sum
 | [],_,_,B,_,_=>NN _ _
 | t::l,out,ok,B,h,hl=>by
  obtain⟨h0,h1⟩:=h t AD B hl;rw[Gm,CO,Ld];rcases hr:ex t B with ⟨_|r,B1⟩
  .rw[hr] at h1 h0
   simp only at h1 h0 ⊢;have:=Zf l out false B1 (λa ha=>h a AB) AA;omega
  .rw[hr] at h1 h0
   simp only at h1 h0 ⊢;have:=Zf l (out++r) ok B1 (λa ha=>h a AB) AA;omega
theorem mG {ex:Ty->List Ty->Fw} {n:Ty->Nat} {lo:Nat}:∀(l:List Ty) (out:List (List Ty)) (B:List Ty),(∀t∈l,∀B',lo<=B'.length->B'.length<=(ex t B').2.length/\(ex t B').2.length<=B'.length+n t)->lo<=B.length->(E4 ex l out B).2.length<=B.length+(l.map n).sum
 | [],_,B,_,_=>NN _ _
 | t::l,out,B,h,hl=>by
  obtain⟨h0,h1⟩:=h t AD B hl;rw[E4,CO,Ld];rcases hr:ex t B with ⟨_|r,B1⟩
  .grind
  .rw[hr] at h1 h0
   simp only at h1 h0 ⊢;have:=mG l (out++[r]) B1 (λa ha=>h a AB) AA;omega
theorem Cu {a b:Nat} (h:CM b) (hl:a<=b):CM a:=by grind[CM]
theorem ABO (σ:List Nat) (t:Ty) (u:Nat) (hv:valid t=true):nF (inst σ u t)=nF t:=by
 have h:=S8 σ t u hv
 have:Ur (inst σ u t)=Ur t:=by
  obtain⟨k,n,i,ts⟩:=t;rcases Dz σ u hv with ⟨rfl,rfl,rfl,h0,h1,⟨v,h2,h3⟩|h3⟩|⟨b5,h3⟩ <;> rw[h3] <;> rfl
 grind[nF]
mutual
theorem Zg (σ:List Nat):∀(t:Ty) (u:Nat),valid t=true->nb (inst σ u t)=nb t
 | .mk k n i ts,u,hv=>by
  rcases Dz σ u hv with ⟨rfl,rfl,rfl,h0,h1,⟨v,h2,h3⟩|h3⟩|⟨b5,h3⟩
  .rw[h3]
   rfl
  .rw[h3]
  .simp only[valid,AH] at hv
   obtain⟨e1,e2⟩:=dR σ ts u k 0 hv.2
   grind[nb]
theorem dR (σ:List Nat):∀(l:List Ty) (u:Nat) (k:Int) (j:Nat),BC l=true->nbl (Dd σ u k j l)=nbl l/\(Dd σ u k j l).map nF=l.map nF
 | [],_,_,_,_=>⟨rfl,rfl⟩
 | t::l,u,k,j,hv=>by
  simp only[BC,AH] at hv;obtain⟨e1,e2⟩:=dR σ l u k (j+1) hv.2;rw[Dd,nbl,nbl,Zg σ t _ hv.1,e1,CO,CO,ABO σ t _ hv.1,e2];simp
end
theorem ABP {f:Nat} {b:Ty} {v:Nat} {B0:List Ty} (hv:valid b=true) (hc:CP 0 b=true) (hs:CM (bw b)) (hvB:v<B0.length) (ha:∀B,(A4 (AU 32) f b B).2.length<=B.length+nb b) {l:List Ty} (hl:l.length<=32) {n:Nat} (hn:∀t∈l,pat t=true/\BX (·==(v:Int)) t<=n) {B:List Ty} (hB:B0<+:B) :
  (CY (AU 32) (B6 (AU 32) (A4 (AU 32) f b) v) l [] B).2.length<=B.length+(33*n+500)*nb b:=by
 have few:(∀B r,(A4 (AU 32) f b B).1=some r->r.length<=1)->(CY (AU 32) (B6 (AU 32) (A4 (AU 32) f b) v) l [] B).2.length<=B.length+(33*n+500)*nb b:=by
  intro h;have h1:=dQ (v:=v) (n:=n) ha h l [] B (λt ht=>(hn t ht).2);have h2:nb b*n*l.length<=nb b*n*32:=Eu _ hl
  grind
 rcases qX (f:=f) hv hc hs with h|⟨c,h⟩
 .grind
 .rcases Fl c 2 with h1|h1
  .grind
  .have hx:ExC v (nb b) c B0 (A4 (AU 32) f b):=by
    refine⟨λB=>Fc f b B,ha,λB r hB hr=>⟨h B r hr,λx hx=>?_⟩⟩;obtain⟨_,h2⟩:=(wU (A6:=32) (M:=(A4 (AU 32) f b B).2.length) (f:=f) hv hc hvB).res B r hB hr (AY _)
    grind
   obtain⟨i1,i2⟩:=Xi hx h1 (n:=n) l [] B hn hB AD;simp only[Bz,Nat.mul_zero,Gr] at i1 i2;rw[Nat.mul_comm (33*n+500)];cases ho:(CY (AU 32) (B6 (AU 32) (A4 (AU 32) f b) v) l [] B).1 with
   | none=>
    grind
   | some r=>
    obtain⟨j1,j2⟩:=i1 r ho
    grind[Nat.mul_le_mul_left,Nat.le_trans]
theorem Zh:∀(f:Nat) (t:Ty) (σ:List Nat) (B:List Ty),valid t=true->CP σ.length t=true->CM (bw t)->(∀x∈σ,x<B.length)->(A4 (AU 32) f (inst σ 0 t) B).2.length<=B.length+nb t:=by
 intro f
 induction f with
 | zero=>
  grind[A4]
 | succ f ih=>
  intro t σ B hv hc hs hσ;obtain⟨k,n,i,ts⟩:=t;have hf:=λt B=>Jy (A8:=AU 32) f t B
  have LY:=hv;simp only[valid,AH] at hv
  have part:∀(hk:k≠6) (aP:k≠5),(∀t∈ts,CM (bw t))->∀t∈ts.map (inst σ 0),∀B':List Ty,B.length<=B'.length->B'.length<=(A4 (AU 32) f t B').2.length/\(A4 (AU 32) f t B').2.length<=B'.length+nb t:=by
   intro hk aP W7 t ht B' hl;obtain⟨t0,aQ,rfl⟩:=CR.1 ht;rw[Zg σ t0 0 (Bw hv.2 aQ)];exact⟨hf _ B',ih t0 σ B' (Bw hv.2 aQ) (Fg hk (DZ hc aP) aQ) (W7 t0 aQ) (λx hx=>GI (hσ x hx) hl)⟩
  have emap:(ts.map (inst σ 0)).map nb=ts.map nb:=by grind[List.map_congr_left,Zg,Bw]
  rcases Dz σ 0 LY with ⟨rfl,rfl,rfl,_,_,⟨x,h2,h3⟩|h3⟩|⟨b5,h3⟩
  .grind[A4]
  .grind[A4]
  .rw[h3,A4]
   cases h0:k==0||k==2||k==7 with
   | true=>simp
   | false=>
    simp only[AK];cases h4:k==4 with
    | true=>
     have hk:k=4:=AB;subst hk;have W7:∀t∈ts,CM (bw t):=λt ht=>Cu hs (by simp[*,bw,Fi,Dx,Eb])
     have:=Zf (ex:=A4 (AU 32) f) (n:=nb) (lo:=B.length) (ts.map (inst σ 0)) [] true B (part AI AI W7) (AY _)
     grind[E5,nb,RB]
    | false=>
     simp only[AK];cases MW:k==3 with
     | true=>
      have hk:k=3:=AB;subst hk;have W7:∀t∈ts,CM (bw t):=λt ht=>Cu hs (by simp[*,bw,Fi,Dx,Eb])
      have:=mG (ex:=A4 (AU 32) f) (n:=nb) (lo:=B.length) (ts.map (inst σ 0)) [] B (part AI AI W7) (AY _);rw[emap] at this;rw[E5 (k:=3) AI,nb,RB];simp only[AM];generalize E4 (A4 (AU 32) f) (ts.map (inst σ 0)) [] B=o at this ⊢;rcases o with ⟨_|ls,B1⟩
      .grind
      .simp only
       cases ls.any List.isEmpty with
       | true=>grind
       | false=>
        grind
     | false=>
      simp only[AK];cases ZD:k==6 with
      | false=>simp
      | true=>
       have:k=6:=AB;subst this;rcases LF hv.1 with h' | h' | h' | h' | h' | h' | ⟨_,rfl,rfl,b,body,rfl,hcb⟩
       iterate 6 exact absurd h' AD
       simp only[BC,AH] at hv;obtain⟨_,KA,OW,_⟩:=hv;have eb:inst σ (0+EE 6 0) b=b:=JP σ b 0 KA hcb
       have hcy:CP (1+σ.length) body=true:=by
        have:=DZ hc AI;simp only[EF,AH] at this;have h2:=this.2.1;rw[NV];exact h2
       have SP:sub B.length 0 (inst σ 1 body)=inst (B.length::σ) 0 body:=Jt B.length σ body 0 OW AA;have e1:inst σ (0+EE 6 (0+1)) body=inst σ 1 body:=rfl;simp only[AM,Dd,eb,bX];rw[e1,SP];have hbw:bw (.mk 6 [] 0 [b,body])=bw body+1+(cv body+1)*bw b:=rfl;have fQ:CM (bw b):=Cu hs AB;have hsy:CM (bw body):=Cu hs AA
       have hab:∀B',(A4 (AU 32) f b B').2.length<=B'.length+nb b:=λB'=>by
        have:=ih b [] B' KA hcb fQ (λx hx=>by grind)
        grind[C8]
       have hσ':∀x∈B.length::σ,x<(B++[b]).length:=λx hx=>by grind
       have APe:CP (B.length::σ).length body=true:=AB;have hay:=ih body (B.length::σ) (B++[b]) OW APe hsy hσ';rw[Bd,Bt,Bz] at hay;have enb:nb (.mk 6 [] 0 [b,body])=1+nb body+nF body*nb b:=rfl;rw[enb];have hpy:=Fc (A8:=AU 32) f (inst (B.length::σ) 0 body) (B++[b]);have z6:=λM l=>dN (A8:=AU 32) f body (B.length::σ) (B++[b]) M B.length l OW APe AD hσ'
       have hpt:=λl=>Pr (A8:=AU 32) f (inst (B.length::σ) 0 body) (B++[b]) l (Jb (B.length::σ) body 0 OW).2.2.2
       have hbg:=λl=>Jz (A8:=AU 32) AR f (inst (B.length::σ) 0 body) (B++[b]) l
       have hlf:Ur body=true->∀l,(A4 (AU 32) f (inst (B.length::σ) 0 body) (B++[b])).1=some l->l.length<=1/\lv body<=1:=by
        intro hl l hr;obtain⟨k',n',i',ts'⟩:=body;simp only[Ur,La,Gu] at hl;obtain⟨⟨l3,l4⟩,l6⟩:=hl;refine⟨?_,?_⟩
        .cases f with
         | zero=>cases hr
         | succ f=>
          obtain⟨k2,n2,i2,I6,e2,m3,m4,m6⟩:∃k2 n2 i2 I6,inst (B.length::σ) 0 (.mk k' n' i' ts')=.mk k2 n2 i2 I6/\(k2==3)=false/\(k2==4)=false/\(k2==6)=false:=by
           rcases Dz (B.length::σ) 0 OW with ⟨rfl,rfl,rfl,_,_,⟨x,_,h3⟩|h3⟩|⟨_,h3⟩
           all_goals grind
          rw[e2,A4,m3,m4,m6] at hr;simp only[AK] at hr;cases hq:k2==0||k2==2||k2==7 with
          | true=>
           grind
          | false=>
           grind
        grind[lv]
       generalize A4 (AU 32) f (inst (B.length::σ) 0 body) (B++[b])=o at hay hpy z6 hpt hbg hlf ⊢;rcases o with ⟨_|l,B1⟩
       .grind
       .simp only at hay hpy z6 hpt hbg hlf ⊢
        have qY:l.length<=32:=AB
        have oM:(CY (AU 32) (B6 (AU 32) (A4 (AU 32) f b) B.length) l [] B1).2.length<=B1.length+nF body*nb b:=by
         cases hlb:Ur body with
         | true=>
          obtain⟨q1,q2⟩:=hlf hlb l rfl;rw[nF,hlb];have:=wW (v:=B.length) hab q1 (λt ht=>BK (z6 B1.length l rfl (AY _) t ht) q2) B1
          grind
         | false=>
          rw[nF,hlb];exact ABP KA hcb fQ (B0:=B++[b]) AD hab qY (λt ht=>⟨hpt l rfl t ht,z6 B1.length l rfl (AY _) t ht⟩) hpy
        generalize CY (AU 32) (B6 (AU 32) (A4 (AU 32) f b) B.length) l [] B1=o2 at oM ⊢;rcases o2 with ⟨_|out,B2⟩
        all_goals grind
theorem HE:∀{l:List Ty} {a:Ty},a∈l->depth a<=Cf l
 | b::l,a,h=>by
  simp only[Cf];rcases A5.1 h with rfl|h
  .omega
  .have:=HE h
   omega
theorem ABR {A6 f:Nat} {C5:Ty} (hv:valid C5=true) {σ:List Nat} (hc:CP (1+σ.length) C5=true) (b:Ty) (B:List Ty):(A4 (AU A6) f (inst (B.length::σ) 0 C5) (B++[b])).2.length<=(dK A6 (A4 (AU A6) f) b (inst σ 1 C5) B).2.length:=by
 have SP:sub B.length 0 (inst σ 1 C5)=inst (B.length::σ) 0 C5:=Jt B.length σ C5 0 hv AA;rw[dK,SP];rcases A4 (AU A6) f (inst (B.length::σ) 0 C5) (B++[b]) with ⟨_|l,B1⟩
 .exact AY _
 .have:=(Ij (A8:=AU A6) (g:=B6 (AU A6) (A4 (AU A6) f b) B.length) (λc B=>LK (λB=>Fc f b B) _ c B) l [] B1).length_le
  simp only;rcases hk:CY (AU A6) (B6 (AU A6) (A4 (AU A6) f b) B.length) l [] B1 with ⟨_|o,B2⟩
  .grind
  .grind
section
variable {R:RT}
theorem wX {e ml A6 M f:Nat} (JU:A6<2 ^ 20) {n:List UInt8} {i:Int} {ts:List Ty} (hl:ts.length<2 ^ 36) {B:List Ty}
  (ih:∀t∈ts,∀B',B<+:B'->(A4 (AU A6) f t B').2.length<=M->Dk ml A6 (A4 (AU A6) f t B').1->∀x,BP (ren t) x->∀s,BI s->WG R e ml 44 [x] (A4 (AU A6) f t B') B' s)
  (hM:(J1 A6 (A4 (AU A6) f) ts B).2.length<=M) (hF:Dk ml A6 (match (J1 A6 (A4 (AU A6) f) ts B).1 with
   | none=>none
   | some l=>bif AU A6 l.length then none else some l)) {x:AV} (hx:BP (ren (.mk 3 n i ts)) x) {s:AQ} (hs:BI s):WG R e ml 44 [x] ((match (J1 A6 (A4 (AU A6) f) ts B).1 with
   | none=>none
   | some l=>bif AU A6 l.length then none else some l),(J1 A6 (A4 (AU A6) f) ts B).2) B s:=by
 intro L d hro Ee hE hd;have le:=(BH.1 hE).1;have same:s.bs.set e [d,AG ml]=s.bs:=by grind[List.set_getElem_self]
 have hxc:=hx;rw[Gw _ _ _ _ AI] at hx;obtain⟨a,rfl,ha⟩:=hx;obtain⟨_,_,hxi⟩:=hxc.cells;refine m44 AR ?_;rw[hro,Ee];have g0:=Ax s.bs [AG 3,SS n,AG i,a];have gE:=Ai hE [AG 3,SS n,AG i,a];have hT:(s.bs++[[AG 3,SS n,AG i,a]]).take s.bs.length=s.bs.set e [d,AG ml]:=AB;have hok:BI ⟨s.bs++[[AG 3,SS n,AG i,a]],s.ts⟩:=BI.app (s:=s) hs (hxi _);refine NB ha false rfl (dJ (Ay (A0 (Ay (A0 (A9 ?_))))));generalize s.bs++[[AG 3,SS n,AG i,a]]=bs at g0 gE hT hok
 obtain⟨w,s',⟨d3,Nl,q1,q2,q3,rfl⟩,q4⟩:=ABH (R:=R) (e:=e) JU (λt B=>Fc f t B) (λt _ B r h=>by grind[Jz]) ha hl ih (C9 B) hM (by
  cases h:(J1 A6 (A4 (AU A6) f) ts B).1 with
  | none=>
   rw[h] at hF;exact hF.none _
  | some l=>exact hF.some _) hok (Ce (env R) 44 0 0 0) d rfl rfl gE hd
 have QV:(bs.set e [d3,AG ml]).take s.bs.length=s.bs.set e [d3,AG ml]:=by grind[EU]
 have SU:(bs.set e [d3,AG ml])[e]?=some [d3,AG ml]:=BZ gE;refine AO (AX g0) (AZ (off:=3) g0 rfl ⟨_,_,q4,?_⟩);generalize J1 A6 (A4 (AU A6) f) ts B=o at q1 q2 hF;obtain⟨r,B2⟩:=o;cases r with
 | none=>
  cases q1;exact B9 rfl (B9 rfl (S7 (FA hs QV (q2.A1.Aw _) (r:=none) rfl λw hw=>⟨d3,Nl,hw,q2,q3,rfl⟩)))
 | some out=>
  obtain⟨a5,rfl,ha5⟩:=q1;exact B9 rfl (B9 rfl (dI ha5 SU hF λw hw=>FA hs QV (q2.A1.Aw _) hw λw hw=>⟨d3,Nl,hw,q2,q3,rfl⟩))
theorem wY {e ml A6 M f:Nat} {n:List UInt8} {i:Int} {ts:List Ty} (hl:ts.length*A6<2 ^ 38) (Sr:ts.length<2 ^ 38) {B:List Ty}
  (ih:∀t∈ts,∀B',B<+:B'->(A4 (AU A6) f t B').2.length<=M->Dk ml A6 (A4 (AU A6) f t B').1->∀x,BP (ren t) x->∀s,BI s->WG R e ml 44 [x] (A4 (AU A6) f t B') B' s)
  {out:List Ty} {ok:Bool} {B1:List Ty} (ho:Gm (A4 (AU A6) f) ts [] true B=((out,ok),B1)) (hM:B1.length<=M) (hF:Dk ml A6 (bif ok&&!AU A6 out.length then some out else none)) {x:AV} (hx:BP (ren (.mk 4 n i ts)) x) {s:AQ} (hs:BI s):WG R e ml 44 [x] ((bif ok&&!AU A6 out.length then some out else none),B1) B s:=by
 intro L d hro Ee hE hd;have le:=(BH.1 hE).1;have same:s.bs.set e [d,AG ml]=s.bs:=by grind[List.set_getElem_self]
 have hxc:=hx;rw[Gw _ _ _ _ AI] at hx;obtain⟨a,rfl,ha⟩:=hx;obtain⟨_,_,hxi⟩:=hxc.cells;refine m44 AR ?_;rw[hro,Ee];have g0:=Ax s.bs [AG 4,SS n,AG i,a];have gE:=Ai hE [AG 4,SS n,AG i,a];have hT:(s.bs++[[AG 4,SS n,AG i,a]]).take s.bs.length=s.bs.set e [d,AG ml]:=AB;have hok:BI ⟨s.bs++[[AG 4,SS n,AG i,a]],s.ts⟩:=BI.app (s:=s) hs (hxi _);refine NB ha false rfl (dJ (Ay (A0 (A9 ?_))));have Mi:s.bs.length<=(s.bs++[[AG 4,SS n,AG i,a]]).length:=AD;generalize s.bs++[[AG 4,SS n,AG i,a]]=bs at g0 gE hT hok Mi;refine AO (AX g0) (AZ (off:=3) g0 rfl (Aq (n:=ts.length) (by rw[ha.BA,Aa,Bo,Bm]) ?_))
 refine ABI (R:=R) (M:=M) (λt B=>Fc f t B) (λt _ B r h=>by grind[Jz]) ha hl Sr ih le (o:=((out,ok),B1)) hM (by
  cases ok with
  | false=>exact hF.none _
  | true=>exact hF.some _) ?_ ts.length 0 [] true B bs s.ts d (.AE []) AA AB (C9 B) AD hok hT Mi hd (.inl rfl) (Cd.refl _ _) (DS.AE _ _) (SR.AE _ _)
 intro b2 tk d2 acc hs2 Hh TZ hch hacc;have sL:b2[e]?=some [d2,AG ml]:=CD Hh (by rw[CX le]);cases ok with
 | false=>exact S7 (FA hs Hh (TZ.A1.Aw _) (r:=none) rfl λw hw=>⟨d2,tk,hw,TZ,hch,rfl⟩)
 | true=>
  refine dI hacc sL (by cases hb:AU A6 out.length <;> simpa[hb] using hF) λw hw=>FA hs Hh (TZ.A1.Aw _) hw λw hw=>⟨d2,tk,?_,TZ,hch,rfl⟩
  grind
theorem R6 (hn:Pc R) {e ml A6 M:Nat} (fN:1<=A6) (JU:A6<2 ^ 20) (hM:M<2 ^ 37):∀(f:Nat) (t:Ty) (σ:List Nat),depth t<=f->valid t=true->CP σ.length t=true->wt t<2 ^ 37->size t<2 ^ 18->∀(B:List Ty),(∀x∈σ,x<B.length) ->
  (A4 (AU A6) f (inst σ 0 t) B).2.length<=M->Dk ml A6 (A4 (AU A6) f (inst σ 0 t) B).1->∀x,BP (ren (inst σ 0 t)) x->∀s,BI s->WG R e ml 44 [x] (A4 (AU A6) f (inst σ 0 t) B) B s:=by
 intro f
 induction f with
 | zero=>
  intro t σ hd;obtain⟨k,n,i,ts⟩:=t
  grind[depth]
 | succ f ih=>
  intro t σ hdp hv hc hw hsz B hσ ij hF x hx s hs;have hFs:∀r:List Ty,Dk ml A6 (some r):=λr=>hF.some r
  obtain⟨k,n,i,ts⟩:=t;have LY:=hv;simp only[valid,AH] at hv;have hb0:AU A6 0=false:=AR;have QS:AU A6 1=false:=AB;have hinv:=Dz σ 0 LY;simp only[depth] at hdp;simp only[size] at hsz
  have leaf:∀(T:Ty) (k' i':Int) (n':List UInt8) (ts':List Ty),ren T=.mk k' n' i' ts'->(k'==0||k'==2)=true->∀x,BP (ren T) x->WG R e ml 44 [x] (some [T],B) B s:=by
   intro T k' i' n' ts' hT hk x hx L d hro Ee hE hd;have same:s.bs.set e [d,AG ml]=s.bs:=by grind[List.set_getElem_self]
   rw[hT] at hx;obtain⟨a,rfl,ha⟩:=hx;refine m44 AR ?_;rw[hro,Ee];refine ABJ hT hk ha hE (by rw[QS]; exact hFs _) λw hw=>?_
   rw[QS] at hw;exact FA hs AB (hd.A1.Aw _) hw λw hw=>⟨d,s.ts,hw,hd,Cd.refl _ _,rfl⟩
  have rest:∀(k' i':Int) (n':List UInt8) (ts':List Ty),k'≠0->k'≠2->k'≠3->k'≠4->k'≠6->∀x,BP (.mk k' n' i' ts') x->WG R e ml 44 [x] (some [],B) B s:=by
   intro k' i' n' ts' h0 h2 h3 h4 h6 x hx L d hro Ee hE hd;have same:s.bs.set e [d,AG ml]=s.bs:=by grind[List.set_getElem_self]
   obtain⟨a,rfl,ha⟩:=hx;refine m44 AR ?_;rw[hro,Ee];refine ABK ha h0 h2 h3 h4 h6 (hFs []) hE λw hw=>?_
   exact FA hs AB (hd.A1.Aw _) hw λw hw=>⟨d,s.ts,hw,hd,Cd.refl _ _,rfl⟩
  have mem:∀(hk:k≠6) (aP:k≠5),(∀t∈ts,wt t<2 ^ 37)->∀t∈ts.map (inst σ 0),∀B',B<+:B'->(A4 (AU A6) f t B').2.length<=M->Dk ml A6 (A4 (AU A6) f t B').1->∀x,BP (ren t) x->∀s,BI s->WG R e ml 44 [x] (A4 (AU A6) f t B') B' s:=by
   intro hk aP hwt t ht B' hB' iP hF' x hx s hs;obtain⟨t0,aQ,rfl⟩:=CR.1 ht;have:=HE aQ;have:=F6 aQ;exact ih t0 σ AA (Bw hv.2 aQ) (Fg hk (DZ hc aP) aQ) (hwt t0 aQ) AA B' (λy hy=>GI (hσ y hy) hB'.length_le) iP hF' x hx s hs
  have hts:=BV ts;have qZ:∀{l:List Nat} {a:Nat},a∈l->a<=l.sum:=λh=>Dx h
  rcases LF hv.1 with ⟨rfl,rfl,rfl,rfl⟩|⟨rfl,rfl,rfl,rfl⟩|rfl|⟨rfl,rfl,rfl⟩|⟨rfl,rfl,rfl,hne⟩|⟨rfl,rfl,rfl,h0⟩|⟨rfl,rfl,rfl,b,body,rfl,hcb⟩
  .have eo:A4 (AU A6) (f+1) (inst σ 0 (.mk 0 [] 0 [])) B=(some [inst σ 0 (.mk 0 [] 0 [])],B):=by grind[A4]
   rw[eo];exact leaf _ 0 0 [] [] rfl rfl x hx
  .have eo:A4 (AU A6) (f+1) (inst σ 0 (.mk 1 [] 0 [])) B=(some [],B):=by rfl
   rw[eo];exact rest 1 0 [] [] AI AI AI AI AI x hx
  .grind[A4,Gw]
  .have e1:inst σ 0 (.mk 3 [] 0 ts)=.mk 3 [] 0 (ts.map (inst σ 0)):=by grind[E5]
   rw[e1] at hx ij hF ⊢
   have et:A4 (AU A6) (f+1) (.mk 3 [] 0 (ts.map (inst σ 0))) B=((match (J1 A6 (A4 (AU A6) f) (ts.map (inst σ 0)) B).1 with
     | none=>none
     | some l=>bif AU A6 l.length then none else some l),(J1 A6 (A4 (AU A6) f) (ts.map (inst σ 0)) B).2):=by
    rw[A4,J1];simp only[show((3:Int)==0)=false from rfl,show((3:Int)==2)=false from rfl,show((3:Int)==7)=false from rfl,show((3:Int)==4)=false from rfl,KH,AK,CW,AM];rcases E4 (A4 (AU A6) f) (ts.map (inst σ 0)) [] B with ⟨_|ls,B1⟩
    all_goals grind
   rw[et] at ij hF ⊢;refine wX JU AB (mem AI AI λt ht=>?_) ij hF hx hs
   grind[wt,I0,List.mem_map_of_mem]
  .have e1:inst σ 0 (.mk 4 [] 0 ts)=.mk 4 [] 0 (ts.map (inst σ 0)):=by grind[E5]
   rw[e1] at hx ij hF ⊢;rcases hu:Gm (A4 (AU A6) f) (ts.map (inst σ 0)) [] true B with ⟨⟨out,ok⟩,B1⟩
   have et:A4 (AU A6) (f+1) (.mk 4 [] 0 (ts.map (inst σ 0))) B=((bif ok&&!AU A6 out.length then some out else none),B1):=by grind[A4]
   rw[et] at ij hF ⊢;have hmul:ts.length*A6<=ts.length*2 ^ 20:=Eu _ AA;refine wY AB AB (mem AI AI λt ht=>?_) hu ij hF hx hs
   grind[wt,I0,List.mem_map_of_mem]
  .grind[A4,ren]
  .simp only[BC,AH] at hv
   obtain⟨_,KA,OW,_⟩:=hv;have e1:inst σ 0 (.mk 6 [] 0 [b,body])=.mk 6 [] 0 [b,inst σ 1 body]:=by grind[Dd,EE,JP]
   have hcy:CP (1+σ.length) body=true:=by
    have:=DZ hc AI;simp only[EF,AH] at this;have h2:=this.2.1;rw[NV];exact h2
   rw[e1] at hx ij hF ⊢;have et:A4 (AU A6) (f+1) (.mk 6 [] 0 [b,inst σ 1 body]) B=dK A6 (A4 (AU A6) f) b (inst σ 1 body) B:=AR;rw[et] at ij hF ⊢;simp only[Cf] at hdp;simp only[Ac] at hsz;rw[wt] at hw;simp only[CW,AM,sI,MR,wx] at hw
   have zy:wt b<2 ^ 37/\wt body<2 ^ 37:=by
    have p3:1*wt b<=max 1 (cv body)*wt b:=B5 _ AA;omega
   refine qW hn JU hM KA hcb OW hcy AA hw ?_ hσ ?_ ?_ ij hF hx hs
   .intro l hl t ht
    have hpy:=Fc (A8:=AU A6) f (inst (B.length::σ) 0 body) (B++[b])
    have vv:(A4 (AU A6) f (inst (B.length::σ) 0 body) (B++[b])).2.length<=M:=by
     have:=ABR (A6:=A6) (f:=f) OW hcy b B;omega
    have hBl:=hpy.length_le;simp only[Bd,Bt,Bz] at hBl;obtain⟨z1,z2,z3,z4⟩:=Jb (B.length::σ) body 0 OW
    obtain⟨_,y2⟩:=Gn (A8:=AU A6) f (inst (B.length::σ) 0 body) (B++[b]) M (qM M) l (λi h1 h2=>by grind) (Gq (λx hx=>by
     simp only[AH,Cy,Bd,Bt,Bz]
     grind) body 0 OW) hl vv t ht
    have h1:=ZP (A8:=AU A6) f (inst (B.length::σ) 0 body) (B++[b]) l hl t ht;rw[lY _ _ _ OW] at h1;have y3:BX (·==(B.length:Int)) t<=cv body:=BK (S3 (λ_ _=>rfl) t) h1;have y4:BX (·==(B.length:Int)) t*wt b<=max 1 (cv body)*wt b:=B5 _ AA;omega
   .intro B' iP hF' x hx s hs
    have:=ih b [] AA KA hcb zy.1 AA B' (λy hy=>by grind)
    grind[C8]
   grind
end
theorem dS:∀(n:Nat) (l:List Int),l.Nodup->(∀i∈l,0<=i/\i<(n:Int))->l.length<=n:=by
 intro n
 induction n with
 | zero=>
  intro l _ h;cases l with
  | nil=>simp
  | cons a l=>
   have:=h a AD;omega
 | succ n ih=>
  intro l hn h
  by_cases hm:(n:Int)∈l
  .have h1:=ih (l.erase (n:Int)) (hn.erase _) (λi hi=>by grind)
   grind
  grind
theorem Rl.Zi {B:List Ty} {lo hi:Nat} {b:Br} {p:Ty} {φ:List Nat} (H:Rl false 0 B lo hi [] b p φ):(occs b.body []).length<=φ.length:=by
 refine dS _ _ (FT b.body [] Et) λi hi=>?_
 rcases HZ b.body [] i hi with h|h
 .cases h
 .rcases H.vis i h with h|h|h
  all_goals grind
structure WI (t b:Ty):Prop where
 val:valid b=true
 cl:CP 0 b=true
 dep:depth b<depth t
 L5:size b<size t
 wZ:wt b<=wt t
 bws:bw b<=bw t
 nbs:nb b<=nb t
theorem AH9 (t:Ty):1<=nF t:=by grind[nF]
theorem Us {P:Ty->Prop}:∀{l:List Ty},(∀t∈l,Ec P t)->NA P l
 | [],_=>trivial
 | t::l,h=>by
  rw[NA];exact⟨h t AD,Us λa ha=>h a AB⟩
theorem dU:∀(m:Nat) (t:Ty),depth t<=m->valid t=true->Ec (WI t) t:=by
 intro m
 induction m with
 | zero=>
  intro t hd;obtain⟨k,n,i,ts⟩:=t
  grind[depth]
 | succ m ih=>
  intro t hd hv;obtain⟨k,n,i,ts⟩:=t;have LY:=hv;simp only[valid,AH] at hv;simp only[depth] at hd
  have up:∀t0∈ts,(wt t0<=wt (.mk k n i ts)/\bw t0<=bw (.mk k n i ts)/\nb t0<=nb (.mk k n i ts))->Ec (WI (.mk k n i ts)) t0:=by
   intro t0 h0 h1;have qa:=HE h0;have hs0:=F6 h0;refine Q7 (λb hb=>?_) t0 (ih t0 AA (Bw hv.2 h0));exact⟨hb.val,hb.cl,by have:=hb.dep; grind[depth],by have:=hb.L5; grind[size],BK hb.wZ h1.1,BK hb.bws h1.2.1,BK hb.nbs h1.2.2⟩
  have mem3:∀(hk:(k==6)=false) (hk2:(k==3||k==4)=true),∀t0∈ts,wt t0<=wt (.mk k n i ts)/\bw t0<=bw (.mk k n i ts)/\nb t0<=nb (.mk k n i ts):=by
   intro hk hk2 t0 h0;rw[wt,bw,nb,hk,hk2];simp only[AK,AM,I0,Fi,RB];have h1:=Dx (Eb (f:=wt) h0);have h2:=Dx (Eb (f:=bw) h0);have h3:=Dx (Eb (f:=nb) h0);omega
  have hty:∀l:List Ty,(∀t∈l,t∈ts)->True:=λ_ _=>trivial
  rw[Ec]
  by_cases h6:k=6
  .subst h6
   rcases LF hv.1 with h' | h' | h' | h' | h' | h' | ⟨_,rfl,rfl,b,body,rfl,hcb⟩
   iterate 6 exact absurd h' AD
   simp only[BC,AH] at hv;have e1:wt (.mk 6 [] 0 [b,body])=wt body+max 1 (cv body)*wt b:=rfl;have e2:bw (.mk 6 [] 0 [b,body])=bw body+1+(cv body+1)*bw b:=rfl;have e3:nb (.mk 6 [] 0 [b,body])=1+nb body+nF body*nb b:=rfl;have w1:1*wt b<=max 1 (cv body)*wt b:=B5 _ AA;have w3:1*bw b<=(cv body+1)*bw b:=B5 _ AA;have w4:1*nb b<=nF body*nb b:=B5 _ (AH9 body);refine⟨λ_ b' body' he=>?_,λ_=>Us λt0 h0=>up t0 h0 ?_⟩
   .cases he
    exact⟨hv.2.1,hcb,by grind[depth,Cf],by grind[size,Ac],AA,AA,AA⟩
   grind
  grind[Us]
theorem we {α β:Type} (p:α->Bool) (g:α->List β) (q:β->Bool):∀l:List α,(l.all p&&(l.flatMap g).all q)=l.all λb=>p b&&(g b).all q
 | []=>rfl
 | a::l=>by grind
theorem all_congr {α:Type} {p q:α->Bool}:∀{l:List α},(∀a∈l,p a=q a)->l.all p=l.all q
 | [],_=>rfl
 | a::l,h=>by
  rw[HP,HP,h a AD,all_congr λb hb=>h b AB]
theorem CB.map_eq {α β γ:Type} {R:α->β->Prop} {f:α->γ} {g:β->γ} (h:∀a b,R a b->f a=g b):∀{l:List α} {m:List β},CB R l m->l.map f=m.map g
 | [],[],_=>rfl
 | a::l,b::m,⟨h1,h2⟩=>by rw[CO,CO,h a b h1,h2.map_eq h]
 | [],_::_,h=>h.elim
 | _::_,[],h=>h.elim
theorem Ob {t:Ty} {f:Nat} (hv:valid t=true) (hc:CP 0 t=true):∀b∈(A4 (AU 32) f t []).2,WI t b:=by
 have:=RA (A8:=AU 32) (P:=WI t) f t [] hv hc (dU _ t (AY _) hv) [] (λb hb=>by grind)
 grind[C8]
theorem APg:∀(f:Nat) (t:Ty),(verdict t=0->CM (bw t))->xP f t=xR f t:=by
 intro f
 induction f with
 | zero=>intro t _; rfl
 | succ f ih=>
  intro t hs;rw[xP,xR];cases hg:!(verdict t==0)||!(CP 0 t) with
  | true=>rfl
  | false=>
   simp only[Gu,Bool.not_eq_false',HN] at hg;obtain⟨hv,hc⟩:=hg;have hs:=hs hv;obtain⟨hv,_,_⟩:=FX hv;simp only[AK];have h:=ZK (A8:=AU 32) rfl rfl (depth t) t [] hv hc Et hs [] (λx hx=>by grind);rw[C8 hv hc] at h;have hb:=Ob (f:=depth t) hv hc;have hsz:=Cz (A8:=AU 32) (depth t) t;generalize DG (AU 32) (depth t) t=o at h hsz;generalize A4 (AU 32) (depth t) t []=o2 at h hb;rcases o with _|l <;> rcases o2 with ⟨_|ps,B⟩
   .rfl
   .exact h.elim
   .exact h.elim
   .obtain⟨_,h2⟩:=h
    simp only at hb ⊢
    have e:l.map Dq=ps.map (HY B):=by
     have h3:CB (λb p=>b∈l/\∃φ,Rl false 0 B ([]:List Ty).length B.length [] b p φ) l ps:=by
      have gen:∀(l':List Br) (ps':List Ty),(∀b∈l',b∈l)->CB (λb p=>∃φ,Rl false 0 B ([]:List Ty).length B.length [] b p φ) l' ps'->CB (λb p=>b∈l/\∃φ,Rl false 0 B ([]:List Ty).length B.length [] b p φ) l' ps':=by
       intro l'
       induction l' with
       | nil=>intro ps' _ h; cases ps' with
        | nil=>trivial
        | cons _ _=>exact h.elim
       | cons a l' ihl=>
        intro ps' hm h;cases ps' with
        | nil=>exact h.elim
        | cons p ps'=>exact⟨⟨hm a AD,h.1⟩,ihl ps' (λb hb=>hm b AB) h.2⟩
      grind
     refine h3.map_eq λb p ⟨QU,φ,H⟩=>(iL H (AY _) (Cu hs ?_)).symm
     have:=H.Zi;have:=H.len
     grind
    rw[e,we]
    have hall:(ps.map (HY B)).all (λb=>Nx b&&b.bounds.all λb=>Cg (xP f b))=(ps.map (HY B)).all (λb=>Nx b&&b.bounds.all λb=>Cg (xR f b)):=by
     refine all_congr λb td=>?_
     obtain⟨p,_,rfl⟩:=CR.1 td;congr 1;refine all_congr λc Kv=>?_
     rw[ih c];intro hvc;have Kv:c∈(LG B.length p []).2.map λx=>B.getD x aN:=Kv
     obtain⟨x,_,rfl⟩:=CR.1 Kv;rw[Sl];cases hx:B[x]? with
     | none=>exact Cu hs (AN _)
     | some c=>exact Cu hs (hb c (A3 hx)).bws
    rw[hall]
mutual
def vP (p:Int->Bool):Ty->Bool
 | .mk k n i ts=>bif k==5 then n==[]&&(ts.isEmpty&&p i) else bif k==2||k==3 then R7 p ts else true
def R7 (p:Int->Bool):List Ty->Bool
 | []=>true
 | t::l=>vP p t&&R7 p l
end
mutual
theorem Zj {p q:Int->Bool} (h:∀i,p i=true->q i=true):∀t:Ty,vP p t=true->vP q t=true
 | .mk k n i ts,ht=>by
  rw[vP] at ht ⊢;cases h5:k==5 with
  | true=>
   grind
  | false=>
   rw[h5] at ht;cases h2:k==2||k==3 with
   | true=>
    rw[h2] at ht;exact Ut h ts ht
   | false=>rfl
theorem Ut {p q:Int->Bool} (h:∀i,p i=true->q i=true):∀l:List Ty,R7 p l=true->R7 q l=true
 | [],_=>rfl
 | t::l,hl=>by
  simp only[R7,AH] at hl ⊢;exact⟨Zj h t hl.1,Ut h l hl.2⟩
end
theorem Uu (p:Int->Bool):∀(l m:List Ty),R7 p (l++m)=(R7 p l&&R7 p m)
 | [],m=>by rfl
 | t::l,m=>by simp[R7,Uu p l m,Le]
theorem P4:∀(l m:List Ty),Ac (l++m)=Ac l+Ac m
 | [],m=>by simp[Ac]
 | t::l,m=>by simp only[DH,Ac,P4 l m]; omega
mutual
theorem Oc {p q:Int->Bool} {g:Int->Int} (h:∀i,p i=true->q (g i)=true):∀t:Ty,vP p t=true->vP q (Bs (λi=>var (g i)) t)=true/\size (Bs (λi=>var (g i)) t)=size t
 | .mk k n i ts,ht=>by
  rw[vP] at ht;rw[Bs];cases h5:k==5 with
  | true=>
   grind[size,vP]
  | false=>
   rw[h5] at ht;simp only[AK] at ht ⊢;cases h2:k==2||k==3 with
   | true=>
    rw[h2] at ht;obtain⟨i1,i2⟩:=mH h ts ht
    grind[size,vP]
   | false=>
    grind[vP]
theorem mH {p q:Int->Bool} {g:Int->Int} (h:∀i,p i=true->q (g i)=true):∀l:List Ty,R7 p l=true->R7 q (B7 (λi=>var (g i)) l)=true/\Ac (B7 (λi=>var (g i)) l)=Ac l
 | [],_=>⟨rfl,rfl⟩
 | t::l,hl=>by
  simp only[R7,AH] at hl;obtain⟨i1,i2⟩:=Oc h t hl.1;obtain⟨j1,j2⟩:=mH h l hl.2
  grind[B7,R7,Ac]
end
mutual
theorem ADs {p:Int->Bool} {c:Ty} (hc:vP p c=true):∀(b:Ty) (k:Nat),vP p b=true->vP p (MQ c b k)=true/\size (MQ c b k)<=size b+size c
 | .mk d n i ts,k,hb=>by
  have hb':=hb;rw[vP] at hb;rw[MQ];cases h5:d==5 with
  | true=>
   grind
  | false=>
   rw[h5] at hb;simp only[AK] at hb ⊢;cases h3:d==3 with
   | true=>
    have h23:(d==2||d==3)=true:=AB;rw[h23] at hb;obtain⟨i1,i2⟩:=wh hc ts k hb
    grind[size,vP]
   | false=>grind
theorem wh {p:Int->Bool} {c:Ty} (hc:vP p c=true):∀(l:List Ty) (k:Nat),R7 p l=true->R7 p (Gl c l k)=true/\Ac (Gl c l k)<=Ac l+size c
 | [],_,_=>⟨rfl,AN _⟩
 | t::l,k,hl=>by
  simp only[R7,AH] at hl;rw[Gl];cases decide (k<(Ae t).length) with
  | true=>
   obtain⟨i1,i2⟩:=ADs hc t k hl.1
   grind[R7,Ac]
  | false=>
   obtain⟨i1,i2⟩:=wh hc l (k-(Ae t).length) hl.2
   grind[R7,Ac]
end
mutual
theorem S9 {p:Int->Bool}:∀t:Ty,vP p t=true->∀i∈Ae t,p i=true
 | .mk k n i ts,ht,j,hj=>by
  rw[vP] at ht;rw[Ae] at hj;cases h5:k==5 with
  | true=>
   grind
  | false=>
   rw[h5] at ht hj;cases h3:k==3 with
   | true=>
    have h23:(k==2||k==3)=true:=AB;rw[h3] at hj;rw[h23] at ht;exact dV ts ht j hj
   | false=>grind
theorem dV {p:Int->Bool}:∀l:List Ty,R7 p l=true->∀i∈Bk l,p i=true
 | [],_,_,hj=>by cases hj
 | t::l,hl,j,hj=>by
  simp only[R7,AH] at hl;rw[Bk] at hj;rcases B4.1 hj with hj|hj
  .exact S9 t hl.1 j hj
  .exact dV l hl.2 j hj
end
mutual
theorem P5:∀t:Ty,valid t=true->vP (λi=>decide (0<=i)&&decide (i<=200)) t=true
 | .mk k n i ts,h=>by
  have h':=h;simp only[valid,AH] at h;rw[vP];cases h5:k==5 with
  | true=>
   grind[EY,LL]
  | false=>
   simp only[AK];rw[Xj ts h.2];simp
theorem Xj:∀l:List Ty,BC l=true->R7 (λi=>decide (0<=i)&&decide (i<=200)) l=true
 | [],_=>rfl
 | t::l,h=>by
  simp only[BC,AH] at h;rw[R7,P5 t h.1,Xj l h.2];rfl
end
abbrev SV (N:Nat):Int->Bool:=λi=>decide (-201<=i)&&(decide (i<N)||i==hole)
theorem mI {N:Nat} {i:Int}:SV N i=true<->-201<=i/\(i<N\/i=hole):=AD
theorem AIB {N M:Nat} (h:N<=M) (i:Int) (hi:SV N i=true):SV M i=true:=AB
theorem count_map {l:List Int} {g:Int->Int} (h:∀i∈l,g i=hole->i=hole) (h0:l.count hole=0):(l.map g).count hole=0:=by grind[List.count_eq_zero]
theorem L6 (n:Nat):G0 n=Bs λi=>var (bif decide (0<=i)&&!(i==hole) then i+n else i):=by grind[G0]
theorem APh {N n:Nat} {i:Int} (hi:SV N i=true):SV (n+N) (bif decide (0<=i)&&!(i==hole) then i+n else i)=true:=by grind[decide]
theorem ABS {N n:Nat} (h:((n+N:Nat):Int)<hole) {i:Int} (hi:SV N i=true) (he:(bif decide (0<=i)&&!(i==hole) then i+n else i)=hole):i=hole:=AB
structure L7 (W:Nat) (b:Br):Prop where
 ok:vP (SV b.bounds.length) b.body=true
 L5:size b.body<=W
 nh:(Ae b.body).count hole=0
theorem L7.le {W V:Nat} {b:Br} (h:L7 W b) (hl:W<=V):L7 V b:=⟨h.ok,BK h.L5 hl,h.nh⟩
theorem L7.shift {W:Nat} {c:Br} (h:L7 W c) {n:Nat} (hs:((n+c.bounds.length:Nat):Int)<hole):vP (SV (n+c.bounds.length)) (G0 n c.body)=true/\size (G0 n c.body)<=W/\(Ae (G0 n c.body)).count hole=0:=by
 rw[L6];obtain⟨i1,i2⟩:=Oc (q:=SV (n+c.bounds.length)) (g:=λi=>bif decide (0<=i)&&!(i==hole) then i+n else i) (λi hi=>APh hi) c.body h.ok;refine⟨i1,by rw[i2]; exact h.L5,?_⟩;rw[Dp];exact count_map (λi hi he=>ABS hs (S9 _ h.ok i hi) he) h.nh
section
variable {A8:Nat->Bool}
theorem Zk {W:Nat} {b c:Br} {k:Nat} (hb:vP (SV b.bounds.length) b.body=true) (hk:Fb b.body=some k) (hc:L7 W c) (hs:((b.bounds.length+c.bounds.length:Nat):Int)<hole) :
  vP (SV (Ct b k c).bounds.length) (Ct b k c).body=true/\size (Ct b k c).body<=size b.body+W/\(Ae (Ct b k c).body).count hole+1=(Ae b.body).count hole/\k<(Ae b.body).length:=by
 obtain⟨s1,s2,s3⟩:=hc.shift hs;have el:(Ct b k c).bounds.length=b.bounds.length+c.bounds.length:=by simp[Ct]
 obtain⟨f1,f2⟩:=Eh hk;have hkl:k<(Ae b.body).length:=(BH.1 f1).1;obtain⟨t1,t2⟩:=UE f1 f2;have e:(Ct b k c).body=MQ (G0 b.bounds.length c.body) b.body k:=rfl;obtain⟨r1,r2⟩:=ADs s1 b.body k (Zj (λi hi=>AIB (NN _ _) i hi) _ hb)
 grind[Ni]
theorem mJ {l:List Br} {W w S T:Nat} (hl:∀c∈l,L7 W c/\c.bounds.length<=w) (hT:(T:Int)<hole):∀(f:Nat) (b:Br) (r:List Br),vP (SV b.bounds.length) b.body=true->(Ae b.body).count hole<=f->size b.body+(Ae b.body).count hole*W<=S->b.bounds.length+(Ae b.body).count hole*w<=T ->
  EL A8 l f b=some r->∀d∈r,L7 S d
 | 0,b,r,hb,hf,hS,_,h,d,hd=>by
  rw[EL] at h;cases h;rw[Df.1 hd];exact⟨hb,AA,AA⟩
 | f+1,b,r,hb,hf,hS,hTb,h,d,hd=>by
  rw[EL] at h;cases hk:Fb b.body with
  | none=>
   rw[hk] at h;cases h;rw[Df.1 hd];refine⟨hb,AA,?_⟩;rw[NR];intro hm;have h2:(Ae b.body).findIdx? (·==hole)=none:=hk
   grind
  | some k=>
   rw[hk] at h;rcases Ju h d hd with h' | ⟨c,h1,s,h2,h3⟩
   .grind
   .obtain⟨hc,hcw⟩:=hl c h1
    have hpos:0<(Ae b.body).count hole:=by
     have hfs:=Eh hk
     grind
    have m0:1*w<=(Ae b.body).count hole*w:=B5 _ hpos;obtain⟨g1,g2,g3,_⟩:=Zk hb hk hc AA;have el:(Ct b k c).bounds.length=b.bounds.length+c.bounds.length:=by simp[Ct]
    have m1:(Ae b.body).count hole*W=(Ae (Ct b k c).body).count hole*W+W:=by rw[<-g3,KI]
    have m2:(Ae b.body).count hole*w=(Ae (Ct b k c).body).count hole*w+w:=by rw[<-g3,KI]
    exact mJ hl hT f _ s g1 AA AA AA h2 d h3
theorem ABT (n:Nat) (t:Ty):Hq n t=Bs (λi=>var (bif i==-1 then(n:Int) else bif decide (i<0) then i+1 else i)) t:=by rw[Km]
theorem AIC {W:Nat} {b:Br} (h:L7 W b) (hs:((b.bounds.length:Nat):Int)<hole):vP (SV (b.bounds.length+1)) (Hq b.bounds.length b.body)=true/\size (Hq b.bounds.length b.body)=size b.body/\(Ae (Hq b.bounds.length b.body)).count hole=0:=by
 rw[ABT];obtain⟨i1,i2⟩:=Oc (q:=SV (b.bounds.length+1)) (g:=λi=>bif i==-1 then(b.bounds.length:Int) else bif decide (i<0) then i+1 else i) (λi hi=>by grind) b.body h.ok;refine⟨i1,i2,?_⟩;rw[Dp];refine count_map (λi hi he=>?_) h.nh
 grind
theorem AID {N:Nat} {t:Ty} (h:vP (SV (N+1)) t=true) (hs:(N:Int)<hole):vP (SV N) (I5 N hole t)=true/\size (I5 N hole t)=size t:=by
 rw[Jv];refine Oc (q:=SV N) (g:=λi=>bif i==(N:Int) then hole else i) (λi hi=>?_) t h
 grind
theorem wj {W Wb w C:Nat} {Qx:Option (List Br)} {bound:Ty} {b:Br} (hb:L7 W b) (hC:(Ae b.body).length<=C) (hl:∀l,Qx=some l->∀c∈l,L7 Wb c/\c.bounds.length<=w) {T:Nat} (hT:(T:Int)<hole) (hbT:b.bounds.length+(Ae b.body).length*w<=T) {r:List Br} (h:E3 A8 Qx bound b=some r):∀d∈r,L7 (W+C*Wb) d:=by
 have hs:((b.bounds.length:Nat):Int)<hole:=AA;obtain⟨b1,b2,b3⟩:=AIC hb hs;obtain⟨r1,r2⟩:=AID b1 hs;have aO:=hb.L5;intro d hd;unfold E3 at h;cases ho:oI (·==(b.bounds.length:Int)) (Hq b.bounds.length b.body) with
 | true=>
  rw[ho] at h;cases h;rw[Df.1 hd];exact⟨AB,AB,b3⟩
 | false=>
  rw[ho] at h;simp only[AK] at h;cases hk:Fb (I5 b.bounds.length hole (Hq b.bounds.length b.body)) with
  | none=>
   rw[hk] at h;cases h;rw[Df.1 hd];refine⟨r1,AB,?_⟩;rw[NR];intro hm;have h2:(Ae (I5 b.bounds.length hole (Hq b.bounds.length b.body))).findIdx? (·==hole)=none:=hk
   grind
  | some k=>
   rw[hk] at h;cases hb':Qx with
   | none=>grind
   | some l=>
    rw[hb'] at h;simp only at h;have Ff:(Ae (I5 b.bounds.length hole (Hq b.bounds.length b.body))).length=(Ae b.body).length:=by simp[*,Jv,Dp,Km]
    have M1:(Ae (I5 b.bounds.length hole (Hq b.bounds.length b.body))).count hole<=(Ae b.body).length:=AB;have hcs:=Ea b.body;refine mJ (S:=W+C*Wb) (T:=T) (λc hc=>hl l hb' c hc) hT _ ⟨b.bounds,I5 b.bounds.length hole (Hq b.bounds.length b.body)⟩ r r1 M1 ?_ ?_ h d hd
    .have m1:(Ae (I5 b.bounds.length hole (Hq b.bounds.length b.body))).count hole*Wb<=C*Wb:=B5 _ AA
     grind
    .have m1:(Ae (I5 b.bounds.length hole (Hq b.bounds.length b.body))).count hole*w<=(Ae b.body).length*w:=B5 _ M1
     grind
end
section
variable {A8:Nat->Bool}
theorem wk {W S:Nat} {b c:Br} {args:List Ty} (hb:L7 S b) (he:b.body=.mk 3 [] 0 args) (hc:L7 W c) (hs:((b.bounds.length+c.bounds.length:Nat):Int)<hole):L7 (S+W) ⟨b.bounds++c.bounds,.mk 3 [] 0 (args++[G0 b.bounds.length c.body])⟩:=by
 obtain⟨s1,s2,s3⟩:=hc.shift hs;have hok:=hb.ok;have hsz:=hb.L5;have hnh:=hb.nh;rw[he] at hok hsz hnh;have hok:R7 (SV b.bounds.length) args=true:=Be;have hsz:Ac args+1<=S:=Be;have hnh:(Bk args).count hole=0:=Be;refine⟨?_,?_,?_⟩
 all_goals grind[vP,R7,Uu,Ut,size,P4,Ac,Ae,W9]
theorem wm {T:Nat} (hT:(T:Int)<hole):∀{ls:List (List Br)} {ws vs:List Nat} {out r:List Br} {N S:Nat},(CB (λl w=>∀c∈l,L7 w c) ls ws)->(CB (λl w=>∀c∈l,c.bounds.length<=w) ls vs) ->
  (∀b∈out,L7 S b/\b.bounds.length<=N/\∃args,b.body=.mk 3 [] 0 args)->N+vs.sum<=T->Ie A8 ls out=some r->∀d∈r,L7 (S+ws.sum) d
 | [],[],[],out,r,N,S,_,_,ho,_,h,d,hd=>by grind[Ie]
 | [],_::_,_,_,_,_,_,h,_,_,_,_,_,_=>h.elim
 | [],[],_::_,_,_,_,_,_,h,_,_,_,_,_=>h.elim
 | _::_,[],_,_,_,_,_,h,_,_,_,_,_,_=>h.elim
 | _::_,_::_,[],_,_,_,_,_,h,_,_,_,_,_=>h.elim
 | l::ls,w::ws,v::vs,out,r,N,S,⟨hw,hws⟩,⟨hv,hvs⟩,ho,hN,h,d,hd=>by
  rw[Ie] at h;rw[Ld] at hN;cases hb:A8 (HC out l).length with
  | true=>grind
  | false=>
   rw[hb] at h;have:=wm hT (N:=N+v) (S:=S+w) hws hvs ?_ AA h d hd
   all_goals grind[HC,wk]
theorem Uv:∀(f:Nat) (t:Ty) (l:List Br),valid t=true->CM (bw t)->DG A8 f t=some l->∀b∈l,L7 (wt t) b:=by
 intro f
 induction f with
 | zero=>
  grind[DG]
 | succ f ih=>
  intro t l hv hs h d hd;obtain⟨k,n,i,ts⟩:=t;have LY:=hv;simp only[valid,AH] at hv;rw[DG] at h;have qZ:∀(hk:(k==6)=false) (hk2:(k==3||k==4)=true),∀t0∈ts,CM (bw t0):=by grind[Cu,bw,Fi,Dx]
  rcases LF hv.1 with ⟨rfl,rfl,rfl,rfl⟩|⟨rfl,rfl,rfl,rfl⟩|rfl|⟨rfl,rfl,rfl⟩|⟨rfl,rfl,rfl,hne⟩|⟨rfl,rfl,rfl,h0⟩|⟨rfl,rfl,rfl,b,body,rfl,hcb⟩
  .cases h
   rw[Df.1 hd];exact⟨rfl,by grind[size,wt],rfl⟩
  .grind
  .have hm:∀i,(decide (0<=i)&&decide (i<=200))=true->SV 0 (-1-i)=true:=λi hi=>by grind
   obtain⟨m1,m2⟩:=Oc hm _ (P5 _ LY);cases h;rw[Df.1 hd];refine⟨m1,?_,?_⟩
   all_goals simp[*,size,Lz,wt,NV,Ae,Dp]
  .simp only[show((3:Int)==0)=false from rfl,show((3:Int)==2||(3:Int)==5)=false from rfl,AK,CW,AM] at h
   cases wo:FR (ts.map (DG A8 f)) with
   | none=>grind
   | some ls=>
    rw[wo] at h;simp only at h;have ha:=Ig wo;cases he:ls.any List.isEmpty with
    | true=>grind
    | false=>
     rw[he] at h;have W7:=qZ rfl rfl;have q1:CB (λl w=>∀c∈l,L7 w c) ls (ts.map wt):=ha.HX λt l hm hg c hc=>ih t l (Bw hv.2 hm) (W7 t hm) hg c hc
     have q2:CB (λl w=>∀c∈l,c.bounds.length<=w) ls (ts.map bw):=ha.HX λt l _ hg c hc=>(Cz f t l hg c hc).1
     have:=wm (T:=bw (.mk 3 [] 0 ts)) hs (N:=0) (S:=1) q1 q2 (λb hb=>by
      rw[Df.1 hb];exact⟨⟨rfl,by simp[size,Ac],rfl⟩,AD,_,rfl⟩) (by grind[bw,Fi]) h d hd
     grind[wt,I0]
  .simp only[show((4:Int)==0)=false from rfl,show((4:Int)==2||(4:Int)==5)=false from rfl,show((4:Int)==3)=false from rfl,AK,CW,AM] at h
   cases wo:FR (ts.map (DG A8 f)) with
   | none=>grind
   | some ls=>
    rw[wo] at h;simp only at h;have ha:=Ig wo;cases hb:A8 ls.flatten.length with
    | true=>grind
    | false=>
     rw[hb] at h;cases h;obtain⟨l',h1,h2⟩:=Sk.1 hd;obtain⟨t,h3,h4⟩:=ha.LD l' h1;refine(ih t l' (Bw hv.2 h3) (qZ rfl rfl t h3) h4 d h2).le ?_;have e:wt (.mk 4 [] 0 ts)=1+(ts.map wt).sum:=by grind[wt,I0]
     have:=Dx (Eb (f:=wt) h3);omega
  .have hm:∀i,(decide (0<=i)&&decide (i<=200))=true->SV 0 (-1-i)=true:=λi hi=>by grind
   obtain⟨m1,m2⟩:=Oc hm _ (P5 _ LY);cases h;rw[Df.1 hd];refine⟨m1,?_,?_⟩
   .simp[*,size,Lz,wt,NV]
   .show(Ae (qD _)).count hole=0
    rw[Lz,Dp,Ae]
    grind[List.count_eq_zero,hole]
  .simp only[show((6:Int)==0)=false from rfl,show((6:Int)==2||(6:Int)==5)=false from rfl,show((6:Int)==3)=false from rfl,show((6:Int)==4)=false from rfl,AK,CW,AM,bX] at h
   simp only[BC,AH] at hv;obtain⟨_,KA,OW,_⟩:=hv;have hbw:bw (.mk 6 [] 0 [b,body])=bw body+1+(cv body+1)*bw b:=rfl;have fQ:CM (bw b):=Cu hs AB;have hsy:CM (bw body):=Cu hs AA;cases hb:DG A8 f body with
   | none=>grind
   | some l0=>
    rw[hb] at h;simp only at h;rcases Ju h d hd with h' | ⟨a,h1,s,h2,h3⟩
    .grind
    .obtain⟨z1,z2⟩:=Cz f body l0 hb a h1
     have e:wt (.mk 6 [] 0 [b,body])=wt body+max 1 (cv body)*wt b:=rfl;rw[e];refine wj (T:=bw (.mk 6 [] 0 [b,body])) (w:=bw b) (ih body l0 OW hsy hb a h1) (C:=max 1 (cv body)) AA (λl hl c hc=>⟨ih b l KA fQ hl c hc,(Cz f b l hl c hc).1⟩) hs ?_ h2 d h3;have m1:(Ae a.body).length*bw b<=cv body*bw b:=B5 _ z2
     grind
end
theorem BW.mK {E:Env} {L:BL} {f:FuncId} {args:List AV} {s s':AQ} {v:AV} {T:BL->List AV->AQ->Option (AV×AQ)} {fn:Func} (hfn:E.P.funcs[f]?=some fn) (hc:E.clone f=true) (ht:E.told f=some T) (h:T L args s=some (v,s')):BW E L f args s v s':=by
 refine⟨1,λm hm=>?_⟩;obtain⟨m,rfl⟩:∃m',m=m'+1:=⟨m-1,AA⟩
 grind[EC,PC]
theorem Xk {l:List Int} (hs:l.Pairwise (·<·)) {h:Nat} {u:Int} (hu:l[h]?=some u):(∀x∈l.take (h+1),x<=u)/\(∀x∈l.drop h,u<=x)/\(∀x∈l.drop (h+1),u<x):=by
 have e:l=l.take h++u::l.drop (h+1):=by grind[drop_cons,List.take_append_drop]
 have hp:=hs;rw[e,List.pairwise_append] at hp;obtain⟨h1,h2,h3⟩:=hp;have h4:=(List.pairwise_cons.1 h2).1;refine⟨λx hx=>?_,λx hx=>?_,h4⟩
 all_goals grind
section
variable {R:RT}
theorem RD (w:Int):Af (env R) 152 [AG w] λr=>r=BB false:=
 AYk (u0:=AG w) AD (AIE (EM ⟨_,Hu,AD⟩))
theorem qb (w:Int):Af (env R) 163 [AG w] λr=>r=BB false:=
 AYl (u0:=AG w) AD (AIF (EM ⟨_,Hu,AD⟩))
theorem qc (a b:Int):Af (env R) 162 [AG a,AG b] λr=>r=BB (decide (a<b)):=by
 refine AYm (u0:=AG a) (u1:=AG b) AD (AIH ?_);refine AL (RD a) ?_;rintro v rfl;exact B8 (B8 (B8 (pk (Ak (Ak (Ak (Ao (pk ⟨_,Hu,rfl⟩))))))))
def wq (bs:List (List AV)) (l:List Int) (x:AV):Prop:=(x=.AE []/\l=[])\/∃id,x=.ref id 0 l.length 1/\bs[id]?=some (l.map λn=>AG n)/\l≠[]
theorem L8 {s:AQ} {id:Nat} {l:List Int} (hid:s.bs[id]?=some (l.map λn=>AG n)) (hne:l≠[]):alive s id=true:=by
 obtain⟨c,r,hc⟩:∃c r,l=c::r:=by
  cases l with
  | nil=>grind
  | cons c r=>simp
 simp[*]
theorem P6 {want:Bool} {s:AQ} {W:(AV->AQ->Prop)->Prop} {K:AV->AQ->Prop} (h:K (.tuple []) s):Tl (.tuple []) want s W K:=h
theorem ABU {s:AQ} {id i:Nat} {l:List Int} {w:Int} (hid:s.bs[id]?=some (l.map λn=>AG n)) (hne:l≠[]) (hw:l[i]?=some w) {K:AV->Prop} (h:K (AG w)):NC s 1 (.ref id 0 l.length 1) (AG i) λa=>D5 (env R) s none a K:=by
 have hi:i<l.length:=(BH.1 hw).1;refine⟨⟨AA,AA,rfl,L8 hid hne⟩,?_⟩
 simp_all
def Found (l:List Int) (w:Int) (i:Nat) (b:Bool):Prop:=i<=l.length/\(b=true->l[i]?=some w)/\(b=false->(∀u∈l.take i,u<w)/\∀u∈l.drop i,w<u)
theorem Zl {w:Int} {l:List Int} (hs:l.Pairwise (·<·)) {id:Nat} {s:AQ} (hid:s.bs[id]?=some (l.map λn=>AG n)) (hne:l≠[]) (hl:l.length<2 ^ 40) {Post:AV->Prop} (hP:∀(i:Nat) b,Found l w i b->Post (.tuple [AG i,BB b])) {n0 ro rt n m:Nat} :
  ∀(d i j:Nat),j-i<=d->i<=j->j<=l.length->(∀u∈l.take i,u<w)->(∀u∈l.drop j,w<=u)->wu R n0 ro rt (.ref id 0 l.length 1) (AG w) (AG l.length) (AG i) (AG j) s (QI n m Post):=by
 have fin:∀(i:Nat) b,Found l w i b->QI n m Post (.tuple [AG i,BB b]) s:=λi b h=>⟨_,AD,hP i b h⟩
 intro d
 induction d with
 | zero=>
  intro i j h1 h2 h3 h4 h5;have e:i=j:=AA;subst e;refine jB (Ao ?_);simp only[Int.lt_irrefl,YW];refine Ay (w6 (Ao ?_))
  by_cases hi:i<l.length
  .obtain⟨u,hu⟩:∃u,l[i]?=some u:=⟨_,Au hi⟩
   have b1:decide ((i:Int)<(l.length:Int))=true:=AB;rw[b1];refine Ak (Ak ?_);refine Ak ?_;have hi':i<l.length:=hi;refine⟨⟨AA,AA,rfl,L8 hid hne⟩,?_⟩;have e:0+((i:Int).toNat)*1=i:=AA;rw[e];refine Ak ?_;simp only[D5,hid,wO,DF,FJ,hu,NQ];refine Ak (Ak (A0 ?_));cases hb:(u==w) with
   | true=>
    have huw:u=w:=AB;subst huw;refine Ak ?_;refine Kn AD (Kn AD (Kn AD (Kn AD (Kn AD (Kn AD (P6 (P6 (Kn AD ?_))))))));exact Ak (pk (pk (fin i true ⟨h3,λ_=>hu,AD⟩)))
   | false=>
    have huw:u≠w:=AB
    have hf:Found l w i false:=⟨h3,AD,λ_=>⟨h4,λx hx=>by
     have h6:=(Xk hs hu).2.1 x hx;have h7:=h5 u (by rw[drop_cons hu]; simp);omega⟩⟩
    refine Ak ?_;refine Ak (Ak (Ak ?_));refine⟨⟨AA,AA,rfl,L8 hid hne⟩,?_⟩;rw[e];refine Ak ?_;simp only[D5,hid,wO,DF,FJ,hu,NQ];refine Ak ?_;refine AL (qb u) ?_;simp[*]
  .have b1:decide ((i:Int)<(l.length:Int))=false:=by grind
   rw[b1];refine Kn AD (Kn AD (Kn AD (Kn AD (Kn AD (Kn AD (Kn AD ?_))))));refine P6 (P6 (P6 (P6 (P6 (P6 (P6 (P6 (P6 ?_))))))));exact Kn AD (pk (fin i false ⟨h3,AD,λ_=>⟨h4,λx hx=>by grind⟩⟩))
 | succ d ih=>
  intro i j h1 h2 h3 h4 h5
  by_cases hij:i<j
  .refine jB (Ao ?_)
   have b1:decide ((i:Int)<(j:Int))=true:=AB;rw[b1];refine A9 (AII (Ba AA AA ?_));have hw1:IntKind.u64.wrap ((i:Int)+j)=(i:Int)+j:=by grind[IntKind.wrap,IntKind.bits,IntKind.signed]
   have APi:∀(K:AV->Prop),K (.pv (.sc (.int .u64 ((i:Int)+j))))->Od .u64 (AG ((i:Int)+j)) K:=by
    intro K h;simp only[Od,hw1];exact h
   refine APi _ ?_
   have AYn:∀(K:AV->Prop),K (.pv (.sc (.int .u64 (((i+j) / 2:Nat):Int))))->DX .u64 .shr (.pv (.sc (.int .u64 ((i:Int)+j)))) (.pv (.sc (.int .u64 1))) K:=by
    intro K h;refine⟨⟨rfl,rfl⟩,AA,?_⟩
    have e:((i:Int)+j).fdiv (2 ^ (min (1:Int).toNat IntKind.u64.bits))=(((i+j) / 2:Nat):Int):=by
     have:(2:Int) ^ (min (1:Int).toNat IntKind.u64.bits)=2:=AR
     grind
    grind
   refine AYn _ ?_
   have zu:IntKind.i64.wrap ((((i+j) / 2:Nat):Int))=(((i+j) / 2:Nat):Int):=by
    unfold IntKind.wrap;simp[IntKind.bits,IntKind.signed];omega
   have AIJ:∀(K:AV->Prop),K (AG (((i+j) / 2:Nat):Int))->Od .i64 (.pv (.sc (.int .u64 (((i+j) / 2:Nat):Int)))) K:=by
    intro K h;simp only[Od,zu];exact h
   refine AIJ _ ?_;generalize hh:(i+j) / 2=h at *;obtain⟨u,hu⟩:∃u,l[h]?=some u:=⟨_,Au AA⟩;refine ABU hid hne hu ?_;refine AL (qc u w) ?_;rintro v rfl;have hsa:=Xk hs hu
   by_cases hlt:u<w
   .rw[Ar hlt]
    refine A9 (Ba AA AA ?_);have:=ih (h+1) j AA AA h3 (λx hx=>by grind) h5
    grind
   .rw[Az hlt]
    exact Ay (ih i h AA AA AA h4 (λx hx=>by grind))
  .exact ih i j AA h2 h3 h4 h5
theorem Zm {w:Int} {l:List Int} (hs:l.Pairwise (·<·)) {x:AV} {s:AQ} (hx:wq s.bs l x) (hl:l.length<2 ^ 40) :
  ∃v,(∃(i:Nat) (b:Bool),v=.tuple [AG i,BB b]/\Found l w i b)/\∀L,BW (env R) L 142 [x,AG w] s v s:=by
 rcases hx with ⟨rfl,rfl⟩|⟨id,rfl,hid,hne⟩
 .have:Af (env R) 142 [.AE [],AG w] λv=>∃(i:Nat) (b:Bool),v=.tuple [AG i,BB b]/\Found [] w i b:=by
   refine AYo (u0:=.AE []) (u1:=AG w) AD (w7 ?_);simp;refine jB ?_;simp;refine w6 ?_;simp[*,QP,Found]
  obtain⟨v,h1,h2⟩:=this
  grind
 .have Ff:BR [] 0 0 [.ref id 0 l.length 1,AG w]=none:=by rfl
  refine i142 Ff (w7 ?_);have hal:=L8 hid hne
  have hlen:∀K:AV->Prop,K (AG l.length)->HI s (.ref id 0 l.length 1) K:=by
   intro K h;simp only[HI,BA,hal,AM,wO];exact h
  refine hlen _ ?_;exact Zl hs hid hne hl (λi b h=>⟨i,b,rfl,h⟩) _ 0 l.length (AY _) AA (AY _) (λu hu=>by grind) (λu hu=>by grind)
end
end Go.Proofs.YtpgfpakdnijngaaGreatDoor
