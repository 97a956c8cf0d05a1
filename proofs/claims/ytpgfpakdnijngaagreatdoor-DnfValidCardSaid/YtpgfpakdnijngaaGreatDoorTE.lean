/-
  expand: terms without members; what is known of a bound's expansions; a bound is appended.
-/
import Derived.Test.YtpgfpakdnijngaaGreatDoorTD
import Derived.Test.YtpgfpakdnijngaaGreatDoorTC
import Derived.Test.YtpgfpakdnijngaaGreatDoorTB
import Derived.Test.YtpgfpakdnijngaaGreatDoorW1
set_option linter.all false
namespace Go.Proofs.YtpgfpakdnijngaaGreatDoor
open Go.Tel
attribute [local simp] IJ Mx Jw Kh Dc Fk Ew wO setCells HM Df DQ CT DY alive DI KQ UI jG Hi JU Gk Ip L2 JV qD mC okB qE qH qI qJ qK iG qL qN qO qP qQ qR qT qU qV qW qX okF qY qZ qa qb qc Q0 qd Q1 Q2 Q3 Q4 qe qf qg qh qi qj qm qo qp qq GX qt mD qu qv qw qx qy rA rC rD rF rH CD
theorem AI2 {L:BI} {s:AQ} {a:AV} {es:List Ty} {t z:Ty} {K:AV->AQ->Prop} (ha:Dn 0 s.ts 25 a (AZ es)) (El:L.rt=0) (hl:es.length<2 ^ 38) (h:∀a' ts',Dn 0 ts' 25 a' (AZ (es++[t]))->Ck a a' s.ts ts'->K a' ⟨s.bs,ts'⟩) :
  wFu L s 25 4 56 a (.AE [Ah z]) (AG es.length) (.agg ((Ah t).map .pv)) K:=by
 have hlen:=Ab es;have hall:((AZ es).all λr=>r.length==4)=true:=by grind[HP]
 have ht:CD ((Ah t).map AV.pv)=some (Ah t):=IP _;refine⟨⟨Ah z,rfl,Aj z,Cx z⟩,?_,?_⟩
 .rcases ha with rfl|⟨u,rfl,_,_⟩ <;> grind[He,rowsOf]
 .unfold AQY
  refine⟨Cx t,?_⟩
  show wO (CD ((Ah t).map AV.pv)) _
  rw[ht];refine⟨Aj t,?_⟩;have er:AZ es++[Ah t]=AZ (es++[t]):=by simp[EC,AZ]
  rcases ha with rfl|⟨u,rfl,h1,h2⟩
  .refine⟨⟨AA,AA,hall⟩,?_⟩
   refine h (.own s.ts.length (AZ es++[Ah t])) _ (.inr ⟨_,by rw[er],?_,AO _⟩) ⟨AD,λt ht _=>?_,.inr ⟨_,rfl,AY _⟩⟩
   all_goals grind
  .refine⟨⟨AA,AA,h1,AA,hall⟩,?_⟩
   have hlt:u<s.ts.length:=(BA.1 h1).1;refine h (.own u (AZ es++[Ah t])) _ (.inr ⟨u,by rw[er],?_,AO _⟩) ⟨AD,λw hw hn=>?_,.inl rfl⟩
   .grind
   .rw[FN]
    intro hh;exact hn (by rw[<-hh]; rfl)
theorem BF.C1 {a:AV} {es:List Ty} (h:BF a (AZ es)):Tel.C1 a a=true:=by
 rcases h with (rfl|rfl)|⟨t,rfl⟩ <;> simp[Tel.C1,DU,Ni]
abbrev qM (M:Nat):Int->Bool:=λi=>decide (0<=i)&&decide (i<M)
theorem xh {A6 M f v:Nat} {b:Ty} {B0:List Ty} (hv:valid b=true) (hc:CB 0 b=true) (hl:v<B0.length):ExB A6 v M (wt b) B0 (qM M) (BE (Aa A6) f b):=by
 refine⟨λB=>GD f b B,λB r hB h hM=>?_⟩;have hBl:=hB.length_le
 have js:∀q:Int->Bool,FD q b=true:=λq=>by
  have:=Iz (q:=q) (σ:=[]) (λx hx=>by grind) b 0 hv
  grind[Ej]
 have AZ5:inp b=true:=by
  have:=(Jh [] b 0 hv).2.2.2
  grind[Ej]
 have hlen:=LV (BC:=Aa A6) AR f b B r h;refine⟨AB,λc MW=>?_⟩;obtain⟨h1,h2⟩:=Iw f b B M (qM M) r (λi h3 h4=>by grind) (js _) h hM c MW;obtain⟨h3,_⟩:=Iw f b B M (λi=>qM M i&&!(i==(v:Int))) r (λi h3 h4=>by grind[Bool.not_eq_true']) (js _) h hM c MW;have h5:=λinv=>P5 (q:=λi=>qM M i&&!(i==(v:Int))) (v:=v) AD c inv h3
 exact⟨h1,λinv=>(h5 inv).1,(h5 true).2,h2,QB f b B r AZ5 h c MW⟩
section
variable {R:RT}
theorem NC {e:Nat} {k i:Int} {n:List UInt8} {a:AV} {rows:List (List PV)} (ha:BF a rows) {s:AQ} {QR:QT} (b:Bool) (hb:(k==0||k==2)=b) (h:AEm R 0 0 0 (.ptr e 0) (.ptr s.bs.length 0) (.AE []) (BB true) (AG k) (BB b) ⟨s.bs++[[AG k,SS n,AG i,a]],s.ts⟩ QR):nO R 0 0 0 (.ptr e 0) (.agg [AG k,SS n,AG i,a]) s QR:=by
 have g0:=Az s.bs [AG k,SS n,AG i,a];refine AQZ (Bu (cs:=[AG k,SS n,AG i,a]) rfl (by simp[ha.ok]) (AM (AU g0) (AX (off:=0) g0 rfl (Av ?_))));cases h0:(k==0) with
 | true=>
  simp_all
 | false=>
  simp_all
theorem ACD {e A6:Nat} {T:Ty} {k i:Int} {n:List UInt8} {ts:List Ty} (hT:ren T=.mk k n i ts) (hk:(k==0||k==2)=true) {a:AV} (ha:BF a (AZ ts)) {s:AQ} {d:AV} (gE:s.bs[e]?=some [d,AG A6]) {QR:QT} (h:∀w,Res w (bif Aa A6 1 then none else some [T])->QR w ⟨s.bs++[[AG k,SS n,AG i,a]],s.ts⟩):nO R 0 0 0 (.ptr e 0) (.agg [AG k,SS n,AG i,a]) s QR:=by
 have g0:=Az s.bs [AG k,SS n,AG i,a];have hr:BH (ren T) (.agg [AG k,SS n,AG i,a]):=by rw[hT]; exact⟨a,rfl,ha⟩
 refine NC ha true hk (eZ (A1 (Af g0 rfl (Er hr ?_))));exact eY (l:=[T]) (.inl (by grind[CC,AZ,A0.AE])) (Ap gE _) h
theorem ACE {e:Nat} {k i:Int} {n:List UInt8} {a:AV} {rows:List (List PV)} (ha:BF a rows) {s:AQ} {QR:QT} (h0:k≠0) (h2:k≠2) (h3:k≠3) (h4:k≠4) (h6:k≠6) {d:AV} {A6:Nat} (gE:s.bs[e]?=some [d,AG A6]) (h:∀w,Res w (some [])->QR w ⟨s.bs++[[AG k,SS n,AG i,a]],s.ts⟩):nO R 0 0 0 (.ptr e 0) (.agg [AG k,SS n,AG i,a]) s QR:=by
 have e0:(k==0)=false:=AB;have e2:(k==2)=false:=AB;have e3:(k==3)=false:=AB;have e4:(k==4)=false:=AB;have e6:(k==6)=false:=AB;refine NC ha false AB (eZ (Ar (Av ?_)));rw[e4];refine Ar (Av ?_);rw[e3];refine Ar (Av ?_);rw[e6];refine Ar ?_;exact eY (l:=[]) (.inl (by grind[CC,AZ,A0.AE])) (Ap gE _) AB
end
def jt (A6:Nat) (ex:Ty->List Ty->F9) (b body:Ty) (B:List Ty):F9:=match ex (sub B.length 0 body) (B++[b]) with
 | (none,B1)=>(none,B1)
 | (some l,B1)=>match Cj (Aa A6) (B8 (Aa A6) (ex b) B.length) l [] B1 with
  | (none,B2)=>(none,B2)
  | (some out,B2)=>(bif Aa A6 out.length then none else some out,B2)
section
variable {R:RT}
theorem rm (hn:MY R) {e A6 M f:Nat} (J8:A6<2 ^ 20) (hM:M<2 ^ 37) {b DH:Ty} {σ:List Nat} (Km:valid b=true) (hcb:CB 0 b=true) (hv:valid DH=true) (hc:CB (1+σ.length) DH=true) (hsz:size DH<2 ^ 38)
  {B:List Ty} {S:Nat} (hW:S<2 ^ 37) (hlS:∀l,(BE (Aa A6) f (inst (B.length::σ) 0 DH) (B++[b])).1=some l->∀t∈l,size t+Bb (·==(B.length:Int)) t*wt b<=S) (hσ:∀x∈σ,x<B.length)
  (aC:∀(B:List Ty),(BE (Aa A6) f b B).2.length<=M->∀x,BH (ren b) x->∀s,BP s->Wv R e A6 44 [x] (BE (Aa A6) f b B) B s)
  (ihy:(BE (Aa A6) f (inst (B.length::σ) 0 DH) (B++[b])).2.length<=M->∀x,BH (ren (inst (B.length::σ) 0 DH)) x->∀s,BP s->Wv R e A6 44 [x] (BE (Aa A6) f (inst (B.length::σ) 0 DH) (B++[b])) (B++[b]) s)
  (rX:(jt A6 (BE (Aa A6) f) b (inst σ 1 DH) B).2.length<=M) {n:List UInt8} {i:Int} {x:AV} (hx:BH (ren (.mk 6 n i [b,inst σ 1 DH])) x) {s:AQ} (hs:BP s):Wv R e A6 44 [x] (jt A6 (BE (Aa A6) f) b (inst σ 1 DH) B) B s:=by
 intro L d hro El hE hd;have le:=(BA.1 hE).1;have same:s.bs.set e [d,AG A6]=s.bs:=by grind[List.set_getElem_self]
 have So:sub B.length 0 (inst σ 1 DH)=inst (B.length::σ) 0 DH:=Jz B.length σ DH 0 hv AA;have AZ8:ren (.mk 6 n i [b,inst σ 1 DH])=.mk 6 n i [b,ren (inst σ 1 DH)]:=by grind[G2,CC,LX]
 have hxc:=hx;rw[AZ8] at hx;obtain⟨a,rfl,ha⟩:=hx;obtain⟨_,_,hxi⟩:=hxc.cells;generalize VO:jt A6 (BE (Aa A6) f) b (inst σ 1 DH) B=o at rX ⊢;rw[jt,So] at VO;have hpy:=GD (BC:=Aa A6) f (inst (B.length::σ) 0 DH) (B++[b]);have hall:=Iw (BC:=Aa A6) f (inst (B.length::σ) 0 DH) (B++[b]) M (qM M);have hpat:=QB (BC:=Aa A6) f (inst (B.length::σ) 0 DH) (B++[b]);have Og:=LV (BC:=Aa A6) AR f (inst (B.length::σ) 0 DH) (B++[b]);obtain⟨z1,z2,z3,z4⟩:=Jh (B.length::σ) DH 0 hv;rw[z3] at hall;have js:FD (λi=>qM M i&&decide (i<((B++[b]).length:Nat))) (inst (B.length::σ) 0 DH)=true->True:=λ_=>trivial
 rcases hg:BE (Aa A6) f (inst (B.length::σ) 0 DH) (B++[b]) with ⟨r,B1⟩
 rw[hg] at VO ihy hpy hall hpat Og hlS;simp only at VO ihy hpy hall hpat Og hlS;have hcp:∀l,B1<+:(Cj (Aa A6) (B8 (Aa A6) (BE (Aa A6) f b) B.length) l [] B1).2:=λl=>Iy (λc B=>LU (λB=>GD f b B) _ c B) l [] B1
 have Ww:B1.length<=M:=AB;have hBl:B.length+1<=B1.length:=AB;refine m44 AR ?_;rw[hro,El];have g0:=Az s.bs [AG 6,SS n,AG i,a];have gE:=Ap hE [AG 6,SS n,AG i,a];have hT:(s.bs++[[AG 6,SS n,AG i,a]]).take s.bs.length=s.bs.set e [d,AG A6]:=AB;have hok:BP ⟨s.bs++[[AG 6,SS n,AG i,a]],s.ts⟩:=BP.app (s:=s) hs (hxi _);refine NC ha false rfl (eZ (Ar (Av (Ar (Av (Ar (Av (A1 ?_))))))));generalize s.bs++[[AG 6,SS n,AG i,a]]=bs at g0 gE hT hok;have hZ:BH (.mk 0 [] 0 []) (.agg [(AG 0),(SS []),(AG 0),(.AE [])]):=⟨.AE [],rfl,.inl (.AE _)⟩;refine C2 (AU gE) (AM (AU gE) (AX (off:=0) gE rfl (Au (n:=B.length) (by rw[hd.A4.BD,Ab]) (C2 (AU gE) (AM (AU gE) (AX (off:=0) gE rfl (AM (AU g0) (AX (off:=3) g0 rfl ?_))))))));refine BX ha (row:=Ah b) AA rfl (Aj _) AA (Ce (Au (n:=B.length) (by rw[hd.A4.BD,Ab]) (Er hZ ⟨⟨rfl,rfl,rfl,AK⟩,AI2 hd rfl AA λd2 KS w1 w2=>?_⟩)));refine C2 (AU gE) (AM (AU gE) (C3 gE AD w1.A4.cells (AO _) w1.A4.ok (.inl (AO _)) ?_));have AZ9:[d,AG A6].set 0 d2=[d2,AG A6]:=rfl;rw[AZ9];have hne:e≠s.bs.length:=AA;have gE2:(bs.set e [d2,AG A6])[e]?=some [d2,AG A6]:=BZ gE;have tZ:(bs.set e [d2,AG A6])[s.bs.length]?=some [AG 6,SS n,AG i,a]:=BV g0 hne;have JF:(bs.set e [d2,AG A6]).take s.bs.length=s.bs.set e [d2,AG A6]:=by grind[EY]
 have aR:BP ⟨bs.set e [d2,AG A6],KS⟩:=BP.set (s:=⟨bs,s.ts⟩) hok (by simp[Ag,Ax,w1.A4.Ax]) _;generalize bs.set e [d2,AG A6]=b2 at gE2 tZ JF aR;refine AM (AU tZ) (AX (off:=3) tZ rfl (BX ha (row:=Ah (ren (inst σ 1 DH))) AA rfl (Aj _) AA (Ce ?_)));refine AH (LR hn B.length AA) ?_;rintro _ rfl;have VE:GC (2 ^ 40) (inst σ 1 DH)=true:=by grind[Nt,Iz]
 have AaA:size (inst σ 1 DH)<2 ^ 38:=by grind[Jh]
 refine AH (Sq (v:=B.length) AaA VE (U3 σ DH 1 hv) (A8.Bk _)) ?_;rintro y hy;rw[So] at hy;obtain⟨w,s',⟨d3,Nu,q1,q2,q3,rfl⟩,q4⟩:=ihy Ww y hy.Fy ⟨b2,KS⟩ aR (CT (env R) 44 0 0 0) d2 rfl rfl gE2 w1;have VK:(b2.set e [d3,AG A6]).take s.bs.length=s.bs.set e [d3,AG A6]:=by simp[*,EY]
 have Su:(b2.set e [d3,AG A6])[e]?=some [d3,AG A6]:=BZ gE2;have hch:Ck d d3 s.ts Nu:=w2.trans q3;have AI3:BP ⟨b2.set e [d3,AG A6],Nu⟩:=BP.set (s:=⟨b2,KS⟩) aR (by simp[Ag,Ax,q2.A4.Ax]) _;have KX:Tel.C1 a a=true:=BF.C1 (es:=[b,ren (inst σ 1 DH)]) ha;refine⟨_,_,q4,?_⟩
 have conds:∀{K:Prop} ,K->(DY ⟨b2,KS⟩ (.ptr s.bs.length 0) 3 λv=>Tel.C1 v (.ptr s.bs.length (0+3))=true)/\(Df (env R) ⟨b2,KS⟩ none (.ptr s.bs.length (0+3)) λv=>Tel.C1 v a=true)/\(ND ⟨b2,KS⟩ 4 a (AG 1) λv=>Tel.C1 v (.Ct (Ah (ren (inst σ 1 DH))) 0)=true)/\(Df (env R) ⟨b2,KS⟩ (some 4) (.Ct (Ah (ren (inst σ 1 DH))) 0) λv=>Tel.C1 v (.agg ((Ah (ren (inst σ 1 DH))).map .pv))=true)/\K:=λhK=>
  ⟨AM (AU tZ) (DL _ _),AX (off:=3) tZ rfl KX,BX ha (row:=Ah (ren (inst σ 1 DH))) AA rfl (Aj _) AA (by simp[Tel.C1,Po]),Ce (NA _),hK⟩
 cases r with
 | none=>
  cases q1;simp only at VO;subst VO;exact CO rfl (CO rfl (conds (Ar (Ta (FF hs VK (q2.A4.Ax _) (r:=none) rfl λw hw=>⟨d3,Nu,hw,q2,hch,rfl⟩)))))
 | some l=>
  obtain⟨a3,rfl,ha3⟩:=q1;refine CO rfl (CO rfl (conds (A1 ?_)));simp only at VO;have Sn:l.length<=A6:=AB
  have ZR:=hall l (λi h1 h2=>by grind) (Iz (λx hx=>by
   simp only[AI,Cq,Bo,B4,B6]
   grind) DH 0 hv) rfl Ww
  have Sd:=hpat l z4 rfl;have hvB:(B++[b])[B.length]?=some b:=AD;have hxb:ExB A6 B.length M (wt b) (B++[b]) (qM M) (BE (Aa A6) f b):=xh Km hcb AD;have hrb:ren b=b:=LX b Km;have iH:=nJ (R:=R) hn (e:=e) (S:=S) (λi hi=>by grind) J8 hW hxb hvB (λB s hs' _ jY=>aC B jY _ (by rw[hrb]; exact(A8.Bk b).Fy) s hs');have EM:∀o,Cj (Aa A6) (B8 (Aa A6) (BE (Aa A6) f b) B.length) l [] B1=o->o.2.length<=M:=AB
  obtain⟨w4,s4,⟨d4,ts4,k1,k2,k3,rfl⟩,k4⟩:=AB3 (R:=R) hn (e:=e) (M:=M) (W:=wt b) (S:=S) (B0:=B++[b]) (q:=qM M) (λi hi=>by grind) J8 hW (λB=>GD f b B) Sn ha3 (λt ht=>by
   obtain⟨y1,y2⟩:=ZR t ht;exact⟨y1,Sd t ht,hlS l rfl t ht⟩) iH hpy (EM _ rfl) AI3 (CT (env R) 44 0 0 0) d3 rfl rfl Su q2
  have hT4:((b2.set e [d3,AG A6]).set e [d4,AG A6]).take s.bs.length=s.bs.set e [d4,AG A6]:=by simp[*,EY]
  have gE4:((b2.set e [d3,AG A6]).set e [d4,AG A6])[e]?=some [d4,AG A6]:=BZ Su;have AQb:=hch.trans k3;refine⟨_,_,k4,?_⟩;rcases hk:Cj (Aa A6) (B8 (Aa A6) (BE (Aa A6) f b) B.length) l [] B1 with ⟨ro,B2⟩
  rw[hk] at k1 k2 VO;cases ro with
  | none=>
   cases k1;simp only at VO;subst VO;exact CO rfl (CO rfl (Ta (FF hs hT4 (k2.A4.Ax _) (r:=none) rfl λw hw=>⟨d4,ts4,hw,k2,AQb,rfl⟩)))
  | some out=>
   obtain⟨a5,rfl,ha5⟩:=k1;simp only at VO;subst VO;exact CO rfl (CO rfl (eY ha5 gE4 λw hw=>FF hs hT4 (k2.A4.Ax _) hw λw hw=>⟨d4,ts4,hw,k2,AQb,rfl⟩))
end
def ex2:List Nat->Nat
 | [_,c]=>c
 | _=>0
mutual
def lv:Ty->Nat
 | .mk k _ _ ts=>bif k==7||k==5 then 1 else bif k==3 then(lvl ts).sum else bif k==4 then(lvl ts).foldr max 0 else bif k==6 then ex2 (lvl ts) else 0
def lvl:List Ty->List Nat
 | []=>[]
 | t::l=>lv t::lvl l
end
theorem aS:∀l:List Ty,lvl l=l.map lv
 | []=>rfl
 | t::l=>by rw[lvl,aS l]; rfl
theorem max_mem:∀{l:List Nat} {n:Nat},n∈l->n<=l.foldr max 0
 | a::l,n,h=>by
  rw[List.foldr_cons];rcases A3.1 h with rfl|h
  .omega
  .have:=max_mem h
   omega
mutual
theorem Tb (σ:List Nat):∀(t:Ty) (u:Nat),valid t=true->lv (inst σ u t)=lv t
 | .mk k n i ts,u,hv=>by
  rcases D1 σ u hv with ⟨rfl,rfl,rfl,h0,h1,⟨v,h2,h3⟩|h3⟩|⟨b5,h3⟩
  .rw[h3]
   rfl
  .rw[h3]
  .simp only[valid,AI] at hv
   rw[h3,lv,lv,ee σ ts u k 0 hv.2]
theorem ee (σ:List Nat):∀(l:List Ty) (u:Nat) (k:Int) (j:Nat),A9 l=true->lvl (Di σ u k j l)=lvl l
 | [],_,_,_,_=>rfl
 | t::l,u,k,j,hv=>by
  simp only[A9,AI] at hv;rw[Di,lvl,lvl,Tb σ t _ hv.1,ee σ l u k (j+1) hv.2]
end
mutual
theorem ej {m q:Int->Bool} {b:Ty} (hb:Bb q b=0):∀(t:Ty) (k:Nat),Bb q (Ky m b t k)<=Bb q t
 | .mk c n i ts,k=>by
  have ih:=YG (m:=m) hb ts k
  grind[Ky,Bb]
theorem YG {m q:Int->Bool} {b:Ty} (hb:Bb q b=0):∀(l:List Ty) (k:Nat),Cg q (KR m b l k)<=Cg q l
 | [],_=>AY _
 | t::l,k=>by
  rw[KR];cases decide (k<Bb m t) with
  | true=>
   have:=ej (m:=m) hb t k
   grind[Cg]
  | false=>
   have:=YG (m:=m) hb l (k-Bb m t)
   grind[Cg]
end
section
variable {BC:Nat->Bool}
theorem YH {ex:List Ty->F9} {q:Int->Bool} {v:Nat} (hx:∀B,B.length<=(ex B).2.length) {lo M:Nat} (hr:∀B r,lo<=B.length->(ex B).1=some r->(ex B).2.length<=M->∀c∈r,Bb q c=0) :
  ∀(f:Nat) (t:Ty) (B r:List Ty),lo<=B.length->(CQ BC ex v f t B).1=some r->(CQ BC ex v f t B).2.length<=M->∀p∈r,Bb q p<=Bb q t
 | 0,t,B,r,_,h,_=>by grind[CQ]
 | f+1,t,B,r,hlo,h,hM=>by
  have h1:=hx B;have h2:=hr B;rw[CQ] at h hM;cases ho:Cw v false t with
  | false=>grind
  | true=>
   rw[ho] at h hM;simp only[AN] at h hM;rcases he:ex B with ⟨_|cs,B1⟩
   .grind
   .rw[he] at h hM h1 h2
    simp only at h hM h1 h2;have h3:=Iv (BC:=BC) (g:=λc B=>CQ BC ex v f (Ky (·==(v:Int)) c t 0) B) (λc B=>IL hx v f _ B) cs [] B1;have h4:=h2 cs hlo rfl AA;refine J5 (λc B=>IL hx v f _ B) (lo:=lo) cs [] B1 r ?_ AA h hM AD;intro c hc B' r' ux h' jY p hp;exact BM (YH hx hr f _ B' r' ux h' jY p hp) (ej (h4 c hc) t 0)
theorem ek:∀(f:Nat) (t:Ty) (σ:List Nat) (B:List Ty) (M v:Nat) (r:List Ty),valid t=true->CB σ.length t=true->v<B.length->(∀x∈σ,x<B.length) ->
  (BE BC f (inst σ 0 t) B).1=some r->(BE BC f (inst σ 0 t) B).2.length<=M->∀p∈r,Bb (·==(v:Int)) p<=lv t
 | 0,_,_,_,_,_,_,_,_,_,_,h,_=>by cases h
 | f+1,.mk k n i ts,σ,B,M,v,r,hv,hc,hvB,hσ,h,hM=>by
  have ih:=ek f;have hf:=λt B=>J6 (BC:=BC) f t B
  have Lh:=hv;simp only[valid,AI] at hv
  have part:∀(hk:k≠6) (bX:k≠5),∀t∈ts.map (inst σ 0),∀(B' r:List Ty),B.length<=B'.length->(BE BC f t B').1=some r->(BE BC f t B').2.length<=M->∀p∈r,Bb (·==(v:Int)) p<=lv t:=by
   intro hk bX t ht B' r hl h hM;obtain⟨t0,bZ,rfl⟩:=Cv.1 ht;rw[Tb σ t0 0 (Bz hv.2 bZ)];exact ih t0 σ B' M v r (Bz hv.2 bZ) (Fj hk (Dd hc bX) bZ) AA (λx hx=>Fo (hσ x hx) hl) h hM
  have emap:A9 ts=true->(ts.map (inst σ 0)).map lv=ts.map lv:=by grind[List.map_congr_left,Tb,Bz]
  rcases D1 σ 0 Lh with ⟨rfl,rfl,rfl,_,_,⟨x,h2,h3⟩|h3⟩|⟨b5,h3⟩
  .rw[h3,BE] at h
   have:(7:Int)==7:=rfl;simp only[show((7:Int)==7)=true from rfl,Du,AN] at h;cases hb:BC 1 with
   | true=>grind
   | false=>
    rw[hb] at h;cases h;intro p hp;rw[Dl.1 hp,Bb,lv];simp only[show((7:Int)==7)=true from rfl,AN,show((5:Int)==7||(5:Int)==5)=true from rfl];cases (x:Int)==(v:Int) <;> simp
  .rw[h3,BE] at h
   simp only[show((5:Int)==0||(5:Int)==2||(5:Int)==7)=false from rfl,show((5:Int)==4)=false from rfl,show((5:Int)==3)=false from rfl,show((5:Int)==6)=false from rfl,AL] at h;cases hb:BC 0 with
   | true=>grind
   | false=>grind
  .rw[h3,BE] at h hM
   cases h0:k==0||k==2||k==7 with
   | true=>
    grind[G8,Bb]
   | false=>
    rw[h0] at h hM;simp only[AL] at h hM;cases h4:k==4 with
    | true=>
     have hk:k=4:=AB;subst hk;rw[h4,FB (k:=4) AK] at h hM;simp only[AN] at h hM
     have key:=M7 hf (P:=λp=>Bb (·==(v:Int)) p<=lv (.mk 4 n i ts)) (lo:=B.length) (M:=M) (ts.map (inst σ 0)) [] true B (λt hm B' r hl h hM p hp=>BM (part AK AK t hm B' r hl h hM p hp) (by
      have h5:lv t∈(ts.map (inst σ 0)).map lv:=Ed hm;rw[emap hv.2] at h5;simp[*,lv,aS,max_mem])) (AY _)
     grind
    | false=>
     rw[h4] at h hM;simp only[AL] at h hM;cases MU:k==3 with
     | true=>
      have hk:k=3:=AB;subst hk;rw[MU,FB (k:=3) AK] at h hM;simp only[AN] at h hM;have key:=λr=>P8 hf (P:=λw p=>Bb (·==(v:Int)) p<=w) (w:=lv) (lo:=B.length) (M:=M) (ts.map (inst σ 0)) [] [] B r (part AK AK) (AY _)
      rcases hs:FA (BE BC f) (ts.map (inst σ 0)) [] B with ⟨_|ls,B1⟩
      .grind
      .rw[hs] at h hM key
       simp only at h hM key;cases he:ls.any List.isEmpty with
       | true=>
        grind
       | false=>
        rw[he] at h hM;simp only[AL] at h hM;cases hcc:Dy BC ls [[]] with
        | none=>grind
        | some all=>
         rw[hcc] at h hM;simp only at h hM;cases hb:BC all.length with
         | true=>grind
         | false=>
          rw[hb] at h;cases h;intro p hp;obtain⟨a,ha,rfl⟩:=Cv.1 hp;have h5:=RL (q:=(·==(v:Int))) ls _ _ all 0 (key ls rfl hM Ai) hcc (by simp[Cg]) a ha
          grind[Bb,lv,aS]
     | false=>
      rw[MU] at h hM;simp only[AL] at h hM;cases Zy:k==6 with
      | false=>
       grind
      | true=>
       have:k=6:=AB;subst this;rcases Ki hv.1 with h' | h' | h' | h' | h' | h' | ⟨_,rfl,rfl,b,body,rfl,hcb⟩
       iterate 6 exact absurd h' AD
       simp only[A9,AI] at hv;obtain⟨_,Km,Oj,_⟩:=hv;have eb:inst σ (0+ER 6 0) b=b:=JW σ b 0 Km hcb
       have hcy:CB (1+σ.length) body=true:=by
        have:=Dd hc AK;simp only[EF,AI] at this;have h2:=this.2.1;rw[Nf];exact h2
       have So:sub B.length 0 (inst σ 1 body)=inst (B.length::σ) 0 body:=Jz B.length σ body 0 Oj AA;have e1:inst σ (0+ER 6 (0+1)) body=inst σ 1 body:=rfl;rw[Zy] at h hM;simp only[AN,Di,eb,dA] at h hM;rw[e1,So] at h hM;have hfl:=J6 (BC:=BC) f b
       have hbc:∀B' r,B.length<B'.length->(BE BC f b B').1=some r->(BE BC f b B').2.length<=M->∀c∈r,Bb (·==(v:Int)) c=0:=by
        intro B' r hl h hM c MW
        have js:∀q:Int->Bool,FD q b=true:=λq=>by
         have:=Iz (q:=q) (σ:=[]) (λx hx=>by grind) b 0 Km
         grind[Ej]
        have h5:=Iw f b B' M (λi=>!(i==(v:Int))) r (λi h3 h4=>by grind) (js _) h hM c MW;exact(P5 (q:=λi=>!(i==(v:Int))) (v:=v) AD c true h5.1).2
       have hy:=λl=>ih body (B.length::σ) (B++[b]) M v l Oj AB AB (λx hx=>by
        rw[Bo,B4,B6]
        grind)
       have AEo:=J6 (BC:=BC) f (inst (B.length::σ) 0 body) (B++[b]);generalize BE BC f (inst (B.length::σ) 0 body) (B++[b])=o at h hM hy AEo;rcases o with ⟨_|l,B1⟩
       .cases h
       .simp only at h hM hy AEo
        have h6:=Iv (BC:=BC) (g:=B8 BC (BE BC f b) B.length) (λa B'=>Jg hfl B.length a B') l [] B1;have key:=λr=>J5 (BC:=BC) (g:=B8 BC (BE BC f b) B.length) (λa B'=>Jg hfl B.length a B') (P:=λp=>Bb (·==(v:Int)) p<=lv body) (lo:=B.length+1) (M:=M) l [] B1 r
        generalize Cj BC (B8 BC (BE BC f b) B.length) l [] B1=o2 at h hM h6 key;rcases o2 with ⟨_|out,B2⟩
        .cases h
        .simp only at h hM h6 key
         cases hb:BC out.length with
         | true=>grind
         | false=>
          rw[hb] at h;cases h;have e2:lv (.mk 6 [] 0 [b,body])=lv body:=rfl;rw[e2];have Sn:=hy l rfl AA;refine key r ?_ AB rfl hM AD;intro a ha B' r' hlo h5 h7 p hp;have ha1:=Sn a ha;rw[B8] at h5 h7;cases ho:Cw B.length true a with
          | true=>
           grind
          | false=>
           rw[ho] at h5 h7;exact BM (YH hfl (lo:=B.length+1) (M:=M) (λB' r hl=>hbc B' r AA) _ a B' r' hlo h5 h7 p hp) ha1
end
section
variable {BC:Nat->Bool}
theorem VQ {α:Type} {g:α->List Ty->F9} (hg:∀a B,(g a B).2=B):∀(l:List α) (out B:List Ty),(Cj BC g l out B).2=B
 | [],_,_=>rfl
 | a::l,out,B=>by
  have h:=hg a B;rw[Cj];rcases hr:g a B with ⟨_|r,B1⟩
  .grind
  .rw[hr] at h
   simp only at h ⊢;subst h;cases BC (out++r).length with
   | true=>rfl
   | false=>exact VQ hg l _ _
theorem xj {ex:List Ty->F9} {a v:Nat} (ha:∀B,(ex B).2.length<=B.length+a) (f:Nat) (hf:f<=1) (t:Ty) (B:List Ty):(CQ BC ex v f t B).2.length<=B.length+a:=by
 rcases f with _|f
 all_goals grind[CQ,VQ]
theorem eu {ex:List Ty->F9} {a v:Nat} (ha:∀B,(ex B).2.length<=B.length+a) (hc:∀B r,(ex B).1=some r->r.length<=1):∀(f:Nat) (t:Ty) (B:List Ty),(CQ BC ex v f t B).2.length<=B.length+a*f
 | 0,t,B=>by grind[CQ]
 | f+1,t,B=>by
  have h:=ha B;have h2:=hc B;rw[TE,CQ];cases Cw v false t with
  | false=>simp
  | true=>
   simp only[AN];rcases hr:ex B with ⟨_|cs,B1⟩
   .grind
   .rw[hr] at h h2
    simp only at h h2 ⊢;have h3:=h2 cs rfl;rcases cs with _|⟨x,_|⟨y,cs⟩⟩
    .grind[Cj]
    .have ih:=eu (v:=v) ha hc f (Ky (·==(v:Int)) x t 0) B1
     rw[Cj];rcases N4:CQ BC ex v f (Ky (·==(v:Int)) x t 0) B1 with ⟨_|r,B2⟩
     .grind
     .rw[N4] at ih
      simp only at ih ⊢;cases BC ([]++r).length with
      | true=>grind
      | false=>grind[Cj]
    grind
end
theorem YI {α:Type} {A6 a q K:Nat} {B0:List Ty} {g:α->List Ty->F9} (hpre:∀x B,B<+:(g x B).2):∀(l:List α) (out B:List Ty),(∀x∈l,∀B,B0<+:B->(∀r,(g x B).1=some r->r.length=K/\r.length<=A6+1/\(g x B).2.length+a<=B.length+a*K)/\((g x B).1=none->(g x B).2.length<=B.length+q))->B0<+:B->out.length<=A6 ->
  (∀r,(Cj (Aa A6) g l out B).1=some r->r.length=out.length+l.length*K/\(Cj (Aa A6) g l out B).2.length+a*l.length<=B.length+a*(K*l.length)) /\
  ((Cj (Aa A6) g l out B).1=none->∃m,out.length+m*K<=A6/\((Cj (Aa A6) g l out B).2.length<=B.length+a*(m*K)+q\/(K<=A6+1/\(Cj (Aa A6) g l out B).2.length<=B.length+a*(m*K)+a*K)))
 | [],out,B,_,_,_=>by grind[Cj]
 | x::l,out,B,hg,hB,ho=>by
  have h1:=hg x AD B hB;have hp:=hpre x B;rw[Cj];rcases hr:g x B with ⟨_|r,B1⟩
  .rw[hr] at h1
   refine⟨λr h=>(by cases h),λ_=>⟨0,AA,.inl ?_⟩⟩
   grind
  .rw[hr] at h1 hp
   obtain⟨e1,e2,e3⟩:=h1.1 r rfl;simp only at e3 hp ⊢;cases hb:Aa A6 (out++r).length with
   | true=>
    refine⟨λr h=>(by cases h),λ_=>⟨0,AA,.inr ⟨AA,?_⟩⟩⟩
    grind
   | false=>
    simp only[AL];have hb':out.length+r.length<=A6:=AB;obtain⟨i1,i2⟩:=YI hpre l (out++r) B1 (λy hy=>hg y AB) (hB.trans hp) AB;refine⟨λs hs=>?_,λhs=>?_⟩
    .grind[Nat.mul_add]
    .obtain⟨m,j1,j2⟩:=i2 hs
     rw[Bo] at j1;refine⟨m+1,AB,?_⟩
     grind
def qF (f:Nat):Nat:=f+min f 6*66
theorem YJ {c f:Nat} (hc:2<=c) (h:c ^ f<=33):f<=5:=by
 rcases Fq f 6 with h1|h1
 .omega
 .have h2:c ^ 6<=c ^ f:=Nat.pow_le_pow_right AA h1
  have h3:2 ^ 6<=c ^ 6:=Nat.pow_le_pow_left hc 6;omega
structure ExC (v a c:Nat) (B0:List Ty) (ex:List Ty->F9):Prop where
 pre:∀B,B<+:(ex B).2
 len:∀B,(ex B).2.length<=B.length+a
 res:∀B r,B0<+:B->(ex B).1=some r->r.length=c/\∀x∈r,Bb (·==(v:Int)) x=0/\Cw v true x=false/\pat x=true
theorem YK {ex:List Ty->F9} {v a c:Nat} {B0:List Ty} (hx:ExC v a c B0 ex) (hc:2<=c):∀(f:Nat) (t:Ty) (B:List Ty),Bb (·==(v:Int)) t=f->Cw v true t=false->pat t=true->B0<+:B ->
  (∀r,(CQ (Aa 32) ex v f t B).1=some r->r.length=c ^ f/\r.length<=32+1/\(CQ (Aa 32) ex v f t B).2.length+a<=B.length+a*c ^ f)/\((CQ (Aa 32) ex v f t B).1=none->(CQ (Aa 32) ex v f t B).2.length<=B.length+a*qF f)
 | 0,t,B,_,_,_,_=>by grind[CQ]
 | f+1,t,B,RI,hoc,hpt,hB=>by
  have Og:=λr=>RO (A6:=32) (ex:=ex) (v:=v) (f+1) t B r
  have h1:=hx.len B;have h2:=hx.res B;have hp:=hx.pre B;have ho:Cw v false t=true:=by grind[aD]
  rw[CQ,ho] at Og ⊢;simp only[AN] at Og ⊢
  have hq:a*qF f+a<=a*qF (f+1):=by
   rw[<-TE];refine E1 _ ?_
   grind[qF]
  rcases hr:ex B with ⟨_|cs,B1⟩
  .grind
  .rw[hr] at h1 h2 hp Og
   simp only at h1 h2 hp Og ⊢;obtain⟨E6,hcs⟩:=h2 cs hB rfl
   obtain⟨i1,i2⟩:=YI (A6:=32) (a:=a) (q:=a*qF f) (K:=c ^ f) (B0:=B0) (g:=λx B=>CQ (Aa 32) ex v f (Ky (·==(v:Int)) x t 0) B) (λx B=>IM hx.pre v f _ B) cs [] B1 (by
    intro x hxm B' hB';obtain⟨x1,x2,x3⟩:=hcs x hxm;obtain⟨r1,r2⟩:=TU (m:=(·==(v:Int))) (b:=x) t 0 AA;exact YK hx hc f _ B' AA (aE x2 t 0 hoc) (TW x3 t 0 hpt) hB') (hB.trans hp) AD
   refine⟨λr h=>?_,λh=>?_⟩
   .obtain⟨j1,j2⟩:=i1 r h
    refine⟨?_,Og r h,?_⟩
    .rw[j1,E6,TD,B6,CI,Nat.mul_comm]
    .have e1:a*(c ^ f*cs.length)=a*c ^ (f+1):=by rw[E6,TD]
     have e2:a*2<=a*cs.length:=E1 _ AA;omega
   .obtain⟨m,j1,j2⟩:=i2 h
    rw[B6,CI] at j1;have e1:a*(m*c ^ f)<=a*32:=E1 _ j1;rcases Nat.eq_zero_or_pos m with rfl|hm
    .rcases j2 with j2|⟨j2,j3⟩
     .omega
     .have hf5:=YJ hc j2
      have e2:a*c ^ f<=a*33:=E1 _ j2;have e3:a*34<=a*qF (f+1):=E1 _ (by grind[qF]);omega
    .have hk:c ^ f<=33:=by
      have:1*c ^ f<=m*c ^ f:=B5 _ hm;omega
     have hf5:=YJ hc hk;have e3:a*(33+qF f+33)<=a*qF (f+1):=E1 _ (by grind[qF]);rw[TG,TG] at e3;have e2:a*c ^ f<=a*33:=E1 _ hk;omega
def VS:Ty->Bool
 | .mk k _ _ _=>!(k==3||k==4||k==6)
def nF (t:Ty):Nat:=bif VS t then 1 else 33*lv t+500
def ex9:List Nat->List Nat->Nat
 | [b,c],[_,f]=>1+c+f*b
 | _,_=>0
mutual
def nb:Ty->Nat
 | .mk k _ _ ts=>bif k==6 then ex9 (nbl ts) (ts.map nF) else bif k==3||k==4 then(nbl ts).sum else 0
def nbl:List Ty->List Nat
 | []=>[]
 | t::l=>nb t::nbl l
end
theorem RR:∀l:List Ty,nbl l=l.map nb
 | []=>rfl
 | t::l=>by rw[nbl,RR l]; rfl
theorem YL {ex:List Ty->F9} {v a c n:Nat} {B0:List Ty} (hx:ExC v a c B0 ex) (hc:2<=c):∀(l out B:List Ty),(∀t∈l,pat t=true/\Bb (·==(v:Int)) t<=n)->B0<+:B->out.length<=32 ->
  (∀r,(Cj (Aa 32) (B8 (Aa 32) ex v) l out B).1=some r->(Cj (Aa 32) (B8 (Aa 32) ex v) l out B).2.length+a*out.length<=B.length+a*r.length/\r.length<=32) /\
  ((Cj (Aa 32) (B8 (Aa 32) ex v) l out B).1=none->(Cj (Aa 32) (B8 (Aa 32) ex v) l out B).2.length+a*out.length<=B.length+a*(n+461))
 | [],out,B,_,_,ho=>by grind[Cj]
 | t::l,out,B,hl,hB,ho=>by
  obtain⟨t1,t2⟩:=hl t AD;have hp:=LU (BC:=Aa 32) hx.pre v t B;have h33:a*out.length<=a*32:=E1 _ ho
  have key:(∀r,(B8 (Aa 32) ex v t B).1=some r->r.length<=33/\(B8 (Aa 32) ex v t B).2.length<=B.length+a*r.length)/\((B8 (Aa 32) ex v t B).1=none->(B8 (Aa 32) ex v t B).2.length<=B.length+a*(n+396)):=by
   rw[B8];cases hoc:Cw v true t with
   | true=>
    simp
   | false=>
    simp only[AL];obtain⟨f1,f2⟩:=YK hx hc _ t B rfl hoc t1 hB;refine⟨λr h=>?_,λh=>?_⟩
    .grind
    .have:=f2 h
     have e:a*qF (Bb (·==(v:Int)) t)<=a*(n+396):=E1 _ (by grind[qF]);omega
  rw[TG] at key ⊢;rw[Cj];rcases hr:B8 (Aa 32) ex v t B with ⟨_|r,B1⟩
  .grind
  .rw[hr] at key hp
   obtain⟨k1,k2⟩:=key.1 r rfl;simp only at k2 hp ⊢;have h34:a*r.length<=a*33:=E1 _ k1;cases hb:Aa 32 (out++r).length with
   | true=>
    grind
   | false=>
    simp only[AL];obtain⟨i1,i2⟩:=YL hx hc l (out++r) B1 (λy hy=>hl y AB) (hB.trans hp) AB;rw[Bo,TG] at i1 i2
    grind
theorem e9 {ex:List Ty->F9} {v a n:Nat} (ha:∀B,(ex B).2.length<=B.length+a) (hc:∀B r,(ex B).1=some r->r.length<=1):∀(l out B:List Ty),(∀t∈l,Bb (·==(v:Int)) t<=n) ->
  (Cj (Aa 32) (B8 (Aa 32) ex v) l out B).2.length<=B.length+a*n*l.length
 | [],out,B,_=>by grind[Cj]
 | t::l,out,B,hl=>by
  have ht:=hl t AD
  have key:(B8 (Aa 32) ex v t B).2.length<=B.length+a*n:=by
   rw[B8];cases Cw v true t with
   | true=>simp
   | false=>
    have:=eu (BC:=Aa 32) (v:=v) ha hc (Bb (·==(v:Int)) t) t B;have e:a*Bb (·==(v:Int)) t<=a*n:=E1 _ ht
    grind
  rw[Cj,B4,TE];rcases hr:B8 (Aa 32) ex v t B with ⟨_|r,B1⟩
  .grind
  .rw[hr] at key
   simp only at key ⊢;cases Aa 32 (out++r).length with
   | true=>grind
   | false=>
    have:=e9 ha hc l (out++r) B1 (λy hy=>hl y AB)
    grind
theorem xk {ex:List Ty->F9} {v a:Nat} (ha:∀B,(ex B).2.length<=B.length+a) {l:List Ty} (hl:l.length<=1) (hc:∀t∈l,Bb (·==(v:Int)) t<=1) (B:List Ty):(Cj (Aa 32) (B8 (Aa 32) ex v) l [] B).2.length<=B.length+a:=by
 rcases l with _|⟨t,_|⟨u,l⟩⟩
 .grind[Cj]
 .have ht:=hc t AD
  have key:(B8 (Aa 32) ex v t B).2.length<=B.length+a:=by
   rw[B8];cases Cw v true t with
   | true=>simp
   | false=>simp[*,xj]
  grind[Cj]
 grind
theorem rq {b:Ty} {f:Nat} (hv:valid b=true) (hc:CB 0 b=true) (hs:CR (bw b)):(∀B,(BE (Aa 32) f b B).1=none)\/∃c,∀B r,(BE (Aa 32) f b B).1=some r->r.length=c:=by
 have h:=jW (BC:=Aa 32) rfl rfl f b [] hv hc GM hs
 have h2:∀B,MS (λB' b p=>∃φ,Rl false 0 B' B.length B'.length [] b p φ) B (DK (Aa 32) f b) (BE (Aa 32) f b B):=by
  intro B;have:=h B (λx hx=>by grind)
  grind[Ej]
 cases hb:DK (Aa 32) f b with
 | none=>
  left
  intro B;have:=h2 B;rw[hb] at this;rcases he:BE (Aa 32) f b B with ⟨_|r,B1⟩
  .rfl
  .rw[he] at this
   exact this.elim
 | some l=>
  right
  refine⟨l.length,λB r hr=>?_⟩;have:=h2 B;rw[hb] at this;rcases he:BE (Aa 32) f b B with ⟨_|r',B1⟩
  .grind
  .rw[he] at hr this
   cases hr;exact this.2.length.symm
theorem aU {ex:Ty->List Ty->F9} {n:Ty->Nat} {lo:Nat}:∀(l out:List Ty) (ok:Bool) (B:List Ty),(∀t∈l,∀B',lo<=B'.length->B'.length<=(ex t B').2.length/\(ex t B').2.length<=B'.length+n t)->lo<=B.length->(HV ex l out ok B).2.length<=B.length+(l.map n).sum
 | [],_,_,B,_,_=>NW _ _
 | t::l,out,ok,B,h,hl=>by
  obtain⟨h0,h1⟩:=h t AD B hl;rw[HV,CP,Ln];rcases hr:ex t B with ⟨_|r,B1⟩
  .rw[hr] at h1 h0
   simp only at h1 h0 ⊢;have:=aU l out false B1 (λa ha=>h a AB) AA;omega
  .rw[hr] at h1 h0
   simp only at h1 h0 ⊢;have:=aU l (out++r) ok B1 (λa ha=>h a AB) AA;omega
theorem nQ {ex:Ty->List Ty->F9} {n:Ty->Nat} {lo:Nat}:∀(l:List Ty) (out:List (List Ty)) (B:List Ty),(∀t∈l,∀B',lo<=B'.length->B'.length<=(ex t B').2.length/\(ex t B').2.length<=B'.length+n t)->lo<=B.length->(FA ex l out B).2.length<=B.length+(l.map n).sum
 | [],_,B,_,_=>NW _ _
 | t::l,out,B,h,hl=>by
  obtain⟨h0,h1⟩:=h t AD B hl;rw[FA,CP,Ln];rcases hr:ex t B with ⟨_|r,B1⟩
  .grind
  .rw[hr] at h1 h0
   simp only at h1 h0 ⊢;have:=nQ l (out++[r]) B1 (λa ha=>h a AB) AA;omega
theorem Cp {a b:Nat} (h:CR b) (hl:a<=b):CR a:=by grind[CR]
theorem ACH (σ:List Nat) (t:Ty) (u:Nat) (hv:valid t=true):nF (inst σ u t)=nF t:=by
 have h:=Tb σ t u hv
 have:VS (inst σ u t)=VS t:=by
  obtain⟨k,n,i,ts⟩:=t;rcases D1 σ u hv with ⟨rfl,rfl,rfl,h0,h1,⟨v,h2,h3⟩|h3⟩|⟨b5,h3⟩ <;> rw[h3] <;> rfl
 grind[nF]
mutual
theorem aV (σ:List Nat):∀(t:Ty) (u:Nat),valid t=true->nb (inst σ u t)=nb t
 | .mk k n i ts,u,hv=>by
  rcases D1 σ u hv with ⟨rfl,rfl,rfl,h0,h1,⟨v,h2,h3⟩|h3⟩|⟨b5,h3⟩
  .rw[h3]
   rfl
  .rw[h3]
  .simp only[valid,AI] at hv
   obtain⟨e1,e2⟩:=fB σ ts u k 0 hv.2
   grind[nb]
theorem fB (σ:List Nat):∀(l:List Ty) (u:Nat) (k:Int) (j:Nat),A9 l=true->nbl (Di σ u k j l)=nbl l/\(Di σ u k j l).map nF=l.map nF
 | [],_,_,_,_=>⟨rfl,rfl⟩
 | t::l,u,k,j,hv=>by
  simp only[A9,AI] at hv;obtain⟨e1,e2⟩:=fB σ l u k (j+1) hv.2;rw[Di,nbl,nbl,aV σ t _ hv.1,e1,CP,CP,ACH σ t _ hv.1,e2];simp
end
theorem ACI {f:Nat} {b:Ty} {v:Nat} {B0:List Ty} (hv:valid b=true) (hc:CB 0 b=true) (hs:CR (bw b)) (hvB:v<B0.length) (ha:∀B,(BE (Aa 32) f b B).2.length<=B.length+nb b) {l:List Ty} (hl:l.length<=32) {n:Nat} (hn:∀t∈l,pat t=true/\Bb (·==(v:Int)) t<=n) {B:List Ty} (hB:B0<+:B) :
  (Cj (Aa 32) (B8 (Aa 32) (BE (Aa 32) f b) v) l [] B).2.length<=B.length+(33*n+500)*nb b:=by
 have few:(∀B r,(BE (Aa 32) f b B).1=some r->r.length<=1)->(Cj (Aa 32) (B8 (Aa 32) (BE (Aa 32) f b) v) l [] B).2.length<=B.length+(33*n+500)*nb b:=by
  intro h;have h1:=e9 (v:=v) (n:=n) ha h l [] B (λt ht=>(hn t ht).2);have h2:nb b*n*l.length<=nb b*n*32:=E1 _ hl
  grind
 rcases rq (f:=f) hv hc hs with h|⟨c,h⟩
 .grind
 .rcases Fq c 2 with h1|h1
  .grind
  .have hx:ExC v (nb b) c B0 (BE (Aa 32) f b):=by
    refine⟨λB=>GD f b B,ha,λB r hB hr=>⟨h B r hr,λx hx=>?_⟩⟩;obtain⟨_,h2⟩:=(xh (A6:=32) (M:=(BE (Aa 32) f b B).2.length) (f:=f) hv hc hvB).res B r hB hr (AY _)
    grind
   obtain⟨i1,i2⟩:=YL hx h1 (n:=n) l [] B hn hB AD;simp only[B6,Nat.mul_zero,Gt] at i1 i2;rw[Nat.mul_comm (33*n+500)];cases ho:(Cj (Aa 32) (B8 (Aa 32) (BE (Aa 32) f b) v) l [] B).1 with
   | none=>
    grind
   | some r=>
    obtain⟨j1,j2⟩:=i1 r ho
    grind[Nat.mul_le_mul_left,Nat.le_trans]
theorem ACJ:∀(f:Nat) (t:Ty) (σ:List Nat) (B:List Ty),valid t=true->CB σ.length t=true->CR (bw t)->(∀x∈σ,x<B.length)->(BE (Aa 32) f (inst σ 0 t) B).2.length<=B.length+nb t:=by
 intro f
 induction f with
 | zero=>
  grind[BE]
 | succ f ih=>
  intro t σ B hv hc hs hσ;obtain⟨k,n,i,ts⟩:=t;have hf:=λt B=>J6 (BC:=Aa 32) f t B
  have Lh:=hv;simp only[valid,AI] at hv
  have part:∀(hk:k≠6) (bX:k≠5),(∀t∈ts,CR (bw t))->∀t∈ts.map (inst σ 0),∀B':List Ty,B.length<=B'.length->B'.length<=(BE (Aa 32) f t B').2.length/\(BE (Aa 32) f t B').2.length<=B'.length+nb t:=by
   intro hk bX Xj t ht B' hl;obtain⟨t0,bZ,rfl⟩:=Cv.1 ht;rw[aV σ t0 0 (Bz hv.2 bZ)];exact⟨hf _ B',ih t0 σ B' (Bz hv.2 bZ) (Fj hk (Dd hc bX) bZ) (Xj t0 bZ) (λx hx=>Fo (hσ x hx) hl)⟩
  have emap:(ts.map (inst σ 0)).map nb=ts.map nb:=by grind[List.map_congr_left,aV,Bz]
  rcases D1 σ 0 Lh with ⟨rfl,rfl,rfl,_,_,⟨x,h2,h3⟩|h3⟩|⟨b5,h3⟩
  .grind[BE]
  .grind[BE]
  .rw[h3,BE]
   cases h0:k==0||k==2||k==7 with
   | true=>simp
   | false=>
    simp only[AL];cases h4:k==4 with
    | true=>
     have hk:k=4:=AB;subst hk;have Xj:∀t∈ts,CR (bw t):=λt ht=>Cp hs (by simp[*,bw,Fl,Dz,Ed])
     have:=aU (ex:=BE (Aa 32) f) (n:=nb) (lo:=B.length) (ts.map (inst σ 0)) [] true B (part AK AK Xj) (AY _)
     grind[FB,nb,RR]
    | false=>
     simp only[AL];cases MU:k==3 with
     | true=>
      have hk:k=3:=AB;subst hk;have Xj:∀t∈ts,CR (bw t):=λt ht=>Cp hs (by simp[*,bw,Fl,Dz,Ed])
      have:=nQ (ex:=BE (Aa 32) f) (n:=nb) (lo:=B.length) (ts.map (inst σ 0)) [] B (part AK AK Xj) (AY _);rw[emap] at this;rw[FB (k:=3) AK,nb,RR];simp only[AN];generalize FA (BE (Aa 32) f) (ts.map (inst σ 0)) [] B=o at this ⊢;rcases o with ⟨_|ls,B1⟩
      .grind
      .simp only
       cases ls.any List.isEmpty with
       | true=>grind
       | false=>
        grind
     | false=>
      simp only[AL];cases Zy:k==6 with
      | false=>simp
      | true=>
       have:k=6:=AB;subst this;rcases Ki hv.1 with h' | h' | h' | h' | h' | h' | ⟨_,rfl,rfl,b,body,rfl,hcb⟩
       iterate 6 exact absurd h' AD
       simp only[A9,AI] at hv;obtain⟨_,Km,Oj,_⟩:=hv;have eb:inst σ (0+ER 6 0) b=b:=JW σ b 0 Km hcb
       have hcy:CB (1+σ.length) body=true:=by
        have:=Dd hc AK;simp only[EF,AI] at this;have h2:=this.2.1;rw[Nf];exact h2
       have So:sub B.length 0 (inst σ 1 body)=inst (B.length::σ) 0 body:=Jz B.length σ body 0 Oj AA;have e1:inst σ (0+ER 6 (0+1)) body=inst σ 1 body:=rfl;simp only[AN,Di,eb,dA];rw[e1,So];have hbw:bw (.mk 6 [] 0 [b,body])=bw body+1+(cv body+1)*bw b:=rfl;have iH:CR (bw b):=Cp hs AB;have hsy:CR (bw body):=Cp hs AA
       have hab:∀B',(BE (Aa 32) f b B').2.length<=B'.length+nb b:=λB'=>by
        have:=ih b [] B' Km hcb iH (λx hx=>by grind)
        grind[Ej]
       have hσ':∀x∈B.length::σ,x<(B++[b]).length:=λx hx=>by grind
       have AQd:CB (B.length::σ).length body=true:=AB;have hay:=ih body (B.length::σ) (B++[b]) Oj AQd hsy hσ';rw[Bo,B4,B6] at hay;have enb:nb (.mk 6 [] 0 [b,body])=1+nb body+nF body*nb b:=rfl;rw[enb];have hpy:=GD (BC:=Aa 32) f (inst (B.length::σ) 0 body) (B++[b]);have hcn:=λM l=>ek (BC:=Aa 32) f body (B.length::σ) (B++[b]) M B.length l Oj AQd AD hσ'
       have hpt:=λl=>QB (BC:=Aa 32) f (inst (B.length::σ) 0 body) (B++[b]) l (Jh (B.length::σ) body 0 Oj).2.2.2
       have hbg:=λl=>LV (BC:=Aa 32) AR f (inst (B.length::σ) 0 body) (B++[b]) l
       have hlf:VS body=true->∀l,(BE (Aa 32) f (inst (B.length::σ) 0 body) (B++[b])).1=some l->l.length<=1/\lv body<=1:=by
        intro hl l hr;obtain⟨k',n',i',ts'⟩:=body;simp only[VS,Lj,Gw] at hl;obtain⟨⟨l3,l4⟩,l6⟩:=hl;refine⟨?_,?_⟩
        .cases f with
         | zero=>cases hr
         | succ f=>
          obtain⟨k2,n2,i2,KS,e2,m3,m4,m6⟩:∃k2 n2 i2 KS,inst (B.length::σ) 0 (.mk k' n' i' ts')=.mk k2 n2 i2 KS/\(k2==3)=false/\(k2==4)=false/\(k2==6)=false:=by
           rcases D1 (B.length::σ) 0 Oj with ⟨rfl,rfl,rfl,_,_,⟨x,_,h3⟩|h3⟩|⟨_,h3⟩
           all_goals grind
          rw[e2,BE,m3,m4,m6] at hr;simp only[AL] at hr;cases hq:k2==0||k2==2||k2==7 with
          | true=>
           grind
          | false=>
           grind
        grind[lv]
       generalize BE (Aa 32) f (inst (B.length::σ) 0 body) (B++[b])=o at hay hpy hcn hpt hbg hlf ⊢;rcases o with ⟨_|l,B1⟩
       .grind
       .simp only at hay hpy hcn hpt hbg hlf ⊢
        have ru:l.length<=32:=AB
        have pn:(Cj (Aa 32) (B8 (Aa 32) (BE (Aa 32) f b) B.length) l [] B1).2.length<=B1.length+nF body*nb b:=by
         cases hlb:VS body with
         | true=>
          obtain⟨q1,q2⟩:=hlf hlb l rfl;rw[nF,hlb];have:=xk (v:=B.length) hab q1 (λt ht=>BM (hcn B1.length l rfl (AY _) t ht) q2) B1
          grind
         | false=>
          rw[nF,hlb];exact ACI Km hcb iH (B0:=B++[b]) AD hab ru (λt ht=>⟨hpt l rfl t ht,hcn B1.length l rfl (AY _) t ht⟩) hpy
        generalize Cj (Aa 32) (B8 (Aa 32) (BE (Aa 32) f b) B.length) l [] B1=o2 at pn ⊢;rcases o2 with ⟨_|out,B2⟩
        all_goals grind
theorem HQ:∀{l:List Ty} {a:Ty},a∈l->depth a<=Ci l
 | b::l,a,h=>by
  simp only[Ci];rcases A3.1 h with rfl|h
  .omega
  .have:=HQ h
   omega
theorem ACL {A6 f:Nat} {DH:Ty} (hv:valid DH=true) {σ:List Nat} (hc:CB (1+σ.length) DH=true) (b:Ty) (B:List Ty):(BE (Aa A6) f (inst (B.length::σ) 0 DH) (B++[b])).2.length<=(jt A6 (BE (Aa A6) f) b (inst σ 1 DH) B).2.length:=by
 have So:sub B.length 0 (inst σ 1 DH)=inst (B.length::σ) 0 DH:=Jz B.length σ DH 0 hv AA;rw[jt,So];rcases BE (Aa A6) f (inst (B.length::σ) 0 DH) (B++[b]) with ⟨_|l,B1⟩
 .exact AY _
 .have:=(Iy (BC:=Aa A6) (g:=B8 (Aa A6) (BE (Aa A6) f b) B.length) (λc B=>LU (λB=>GD f b B) _ c B) l [] B1).length_le
  simp only;rcases hk:Cj (Aa A6) (B8 (Aa A6) (BE (Aa A6) f b) B.length) l [] B1 with ⟨_|o,B2⟩
  .grind
  .grind
section
variable {R:RT}
theorem xl {e A6 M f:Nat} (J8:A6<2 ^ 20) {n:List UInt8} {i:Int} {ts:List Ty} (hl:ts.length<2 ^ 36) {B:List Ty}
  (ih:∀t∈ts,∀B',B<+:B'->(BE (Aa A6) f t B').2.length<=M->∀x,BH (ren t) x->∀s,BP s->Wv R e A6 44 [x] (BE (Aa A6) f t B') B' s)
  (hM:(Mb A6 (BE (Aa A6) f) ts B).2.length<=M) {x:AV} (hx:BH (ren (.mk 3 n i ts)) x) {s:AQ} (hs:BP s):Wv R e A6 44 [x] ((match (Mb A6 (BE (Aa A6) f) ts B).1 with
   | none=>none
   | some l=>bif Aa A6 l.length then none else some l),(Mb A6 (BE (Aa A6) f) ts B).2) B s:=by
 intro L d hro El hE hd;have le:=(BA.1 hE).1;have same:s.bs.set e [d,AG A6]=s.bs:=by grind[List.set_getElem_self]
 have hxc:=hx;rw[G2 _ _ _ _ AK] at hx;obtain⟨a,rfl,ha⟩:=hx;obtain⟨_,_,hxi⟩:=hxc.cells;refine m44 AR ?_;rw[hro,El];have g0:=Az s.bs [AG 3,SS n,AG i,a];have gE:=Ap hE [AG 3,SS n,AG i,a];have hT:(s.bs++[[AG 3,SS n,AG i,a]]).take s.bs.length=s.bs.set e [d,AG A6]:=AB;have hok:BP ⟨s.bs++[[AG 3,SS n,AG i,a]],s.ts⟩:=BP.app (s:=s) hs (hxi _);refine NC ha false rfl (eZ (Ar (Av (Ar (Av (A1 ?_))))));generalize s.bs++[[AG 3,SS n,AG i,a]]=bs at g0 gE hT hok;obtain⟨w,s',⟨d3,Nu,q1,q2,q3,rfl⟩,q4⟩:=ACA (R:=R) (e:=e) J8 (λt B=>GD f t B) (λt _ B r h=>by grind[LV]) ha hl ih (C4 B) hM hok (CT (env R) 44 0 0 0) d rfl rfl gE hd;have VK:(bs.set e [d3,AG A6]).take s.bs.length=s.bs.set e [d3,AG A6]:=by grind[EY]
 have Su:(bs.set e [d3,AG A6])[e]?=some [d3,AG A6]:=BZ gE;refine AM (AU g0) (AX (off:=3) g0 rfl ⟨_,_,q4,?_⟩);generalize Mb A6 (BE (Aa A6) f) ts B=o at q1 q2;obtain⟨r,B2⟩:=o;cases r with
 | none=>
  cases q1;exact CO rfl (CO rfl (Ta (FF hs VK (q2.A4.Ax _) (r:=none) rfl λw hw=>⟨d3,Nu,hw,q2,q3,rfl⟩)))
 | some out=>
  obtain⟨a5,rfl,ha5⟩:=q1;exact CO rfl (CO rfl (eY ha5 Su λw hw=>FF hs VK (q2.A4.Ax _) hw λw hw=>⟨d3,Nu,hw,q2,q3,rfl⟩))
theorem xm {e A6 M f:Nat} {n:List UInt8} {i:Int} {ts:List Ty} (hl:ts.length*A6<2 ^ 38) (Sd:ts.length<2 ^ 38) {B:List Ty}
  (ih:∀t∈ts,∀B',B<+:B'->(BE (Aa A6) f t B').2.length<=M->∀x,BH (ren t) x->∀s,BP s->Wv R e A6 44 [x] (BE (Aa A6) f t B') B' s)
  {out:List Ty} {ok:Bool} {B1:List Ty} (ho:HV (BE (Aa A6) f) ts [] true B=((out,ok),B1)) (hM:B1.length<=M) {x:AV} (hx:BH (ren (.mk 4 n i ts)) x) {s:AQ} (hs:BP s):Wv R e A6 44 [x] ((bif ok&&!Aa A6 out.length then some out else none),B1) B s:=by
 intro L d hro El hE hd;have le:=(BA.1 hE).1;have same:s.bs.set e [d,AG A6]=s.bs:=by grind[List.set_getElem_self]
 have hxc:=hx;rw[G2 _ _ _ _ AK] at hx;obtain⟨a,rfl,ha⟩:=hx;obtain⟨_,_,hxi⟩:=hxc.cells;refine m44 AR ?_;rw[hro,El];have g0:=Az s.bs [AG 4,SS n,AG i,a];have gE:=Ap hE [AG 4,SS n,AG i,a];have hT:(s.bs++[[AG 4,SS n,AG i,a]]).take s.bs.length=s.bs.set e [d,AG A6]:=AB;have hok:BP ⟨s.bs++[[AG 4,SS n,AG i,a]],s.ts⟩:=BP.app (s:=s) hs (hxi _);refine NC ha false rfl (eZ (Ar (Av (A1 ?_))));have Nk:s.bs.length<=(s.bs++[[AG 4,SS n,AG i,a]]).length:=AD;generalize s.bs++[[AG 4,SS n,AG i,a]]=bs at g0 gE hT hok Nk;refine AM (AU g0) (AX (off:=3) g0 rfl (Au (n:=ts.length) (by rw[ha.BD,Ab,Bv,Bt]) ?_));refine ACB (R:=R) (M:=M) (λt B=>GD f t B) (λt _ B r h=>by grind[LV]) ha hl Sd ih le (o:=((out,ok),B1)) hM ?_ ts.length 0 [] true B bs s.ts d (.AE []) AA AB (C4 B) AD hok hT Nk hd (.inl rfl) (Ck.refl _ _) (DW.AE _ _) (Sr.AE _ _);intro b2 tk d2 acc hs2 JF T6 hch hacc;have gE2:b2[e]?=some [d2,AG A6]:=CN JF (by rw[Ca le]);cases ok with
 | false=>exact Ta (FF hs JF (T6.A4.Ax _) (r:=none) rfl λw hw=>⟨d2,tk,hw,T6,hch,rfl⟩)
 | true=>
  refine eY hacc gE2 λw hw=>FF hs JF (T6.A4.Ax _) hw λw hw=>⟨d2,tk,?_,T6,hch,rfl⟩
  grind
theorem fC (hn:MY R) {e A6 M:Nat} (ZR:1<=A6) (J8:A6<2 ^ 20) (hM:M<2 ^ 37):∀(f:Nat) (t:Ty) (σ:List Nat),depth t<=f->valid t=true->CB σ.length t=true->wt t<2 ^ 37->size t<2 ^ 18->∀(B:List Ty),(∀x∈σ,x<B.length) ->
  (BE (Aa A6) f (inst σ 0 t) B).2.length<=M->∀x,BH (ren (inst σ 0 t)) x->∀s,BP s->Wv R e A6 44 [x] (BE (Aa A6) f (inst σ 0 t) B) B s:=by
 intro f
 induction f with
 | zero=>
  intro t σ hd;obtain⟨k,n,i,ts⟩:=t
  grind[depth]
 | succ f ih=>
  intro t σ hdp hv hc hw hsz B hσ rX x hx s hs;obtain⟨k,n,i,ts⟩:=t;have Lh:=hv;simp only[valid,AI] at hv;have hb0:Aa A6 0=false:=AR;have Qq:Aa A6 1=false:=AB;have hinv:=D1 σ 0 Lh;simp only[depth] at hdp;simp only[size] at hsz
  have leaf:∀(T:Ty) (k' i':Int) (n':List UInt8) (ts':List Ty),ren T=.mk k' n' i' ts'->(k'==0||k'==2)=true->∀x,BH (ren T) x->Wv R e A6 44 [x] (some [T],B) B s:=by
   intro T k' i' n' ts' hT hk x hx L d hro El hE hd;have same:s.bs.set e [d,AG A6]=s.bs:=by grind[List.set_getElem_self]
   rw[hT] at hx;obtain⟨a,rfl,ha⟩:=hx;refine m44 AR ?_;rw[hro,El];refine ACD hT hk ha hE λw hw=>?_
   rw[Qq] at hw;exact FF hs AB (hd.A4.Ax _) hw λw hw=>⟨d,s.ts,hw,hd,Ck.refl _ _,rfl⟩
  have rest:∀(k' i':Int) (n':List UInt8) (ts':List Ty),k'≠0->k'≠2->k'≠3->k'≠4->k'≠6->∀x,BH (.mk k' n' i' ts') x->Wv R e A6 44 [x] (some [],B) B s:=by
   intro k' i' n' ts' h0 h2 h3 h4 h6 x hx L d hro El hE hd;have same:s.bs.set e [d,AG A6]=s.bs:=by grind[List.set_getElem_self]
   obtain⟨a,rfl,ha⟩:=hx;refine m44 AR ?_;rw[hro,El];refine ACE ha h0 h2 h3 h4 h6 hE λw hw=>?_
   exact FF hs AB (hd.A4.Ax _) hw λw hw=>⟨d,s.ts,hw,hd,Ck.refl _ _,rfl⟩
  have mem:∀(hk:k≠6) (bX:k≠5),(∀t∈ts,wt t<2 ^ 37)->∀t∈ts.map (inst σ 0),∀B',B<+:B'->(BE (Aa A6) f t B').2.length<=M->∀x,BH (ren t) x->∀s,BP s->Wv R e A6 44 [x] (BE (Aa A6) f t B') B' s:=by
   intro hk bX hwt t ht B' hB' jY x hx s hs;obtain⟨t0,bZ,rfl⟩:=Cv.1 ht;have:=HQ bZ;have:=F8 bZ;exact ih t0 σ AA (Bz hv.2 bZ) (Fj hk (Dd hc bX) bZ) (hwt t0 bZ) AA B' (λy hy=>Fo (hσ y hy) hB'.length_le) jY x hx s hs
  have hts:=BS ts;have rz:∀{l:List Nat} {a:Nat},a∈l->a<=l.sum:=λh=>Dz h
  rcases Ki hv.1 with ⟨rfl,rfl,rfl,rfl⟩|⟨rfl,rfl,rfl,rfl⟩|rfl|⟨rfl,rfl,rfl⟩|⟨rfl,rfl,rfl,hne⟩|⟨rfl,rfl,rfl,h0⟩|⟨rfl,rfl,rfl,b,body,rfl,hcb⟩
  .have eo:BE (Aa A6) (f+1) (inst σ 0 (.mk 0 [] 0 [])) B=(some [inst σ 0 (.mk 0 [] 0 [])],B):=by grind[BE]
   rw[eo];exact leaf _ 0 0 [] [] rfl rfl x hx
  .have eo:BE (Aa A6) (f+1) (inst σ 0 (.mk 1 [] 0 [])) B=(some [],B):=by rfl
   rw[eo];exact rest 1 0 [] [] AK AK AK AK AK x hx
  .grind[BE,G2]
  .have e1:inst σ 0 (.mk 3 [] 0 ts)=.mk 3 [] 0 (ts.map (inst σ 0)):=by grind[FB]
   rw[e1] at hx rX ⊢
   have et:BE (Aa A6) (f+1) (.mk 3 [] 0 (ts.map (inst σ 0))) B=((match (Mb A6 (BE (Aa A6) f) (ts.map (inst σ 0)) B).1 with
     | none=>none
     | some l=>bif Aa A6 l.length then none else some l),(Mb A6 (BE (Aa A6) f) (ts.map (inst σ 0)) B).2):=by
    rw[BE,Mb];simp only[show((3:Int)==0)=false from rfl,show((3:Int)==2)=false from rfl,show((3:Int)==7)=false from rfl,show((3:Int)==4)=false from rfl,KU,AL,CZ,AN];rcases FA (BE (Aa A6) f) (ts.map (inst σ 0)) [] B with ⟨_|ls,B1⟩
    all_goals grind
   grind[xl,wt,I9,List.mem_map_of_mem]
  .have e1:inst σ 0 (.mk 4 [] 0 ts)=.mk 4 [] 0 (ts.map (inst σ 0)):=by grind[FB]
   rw[e1] at hx rX ⊢;rcases hu:HV (BE (Aa A6) f) (ts.map (inst σ 0)) [] true B with ⟨⟨out,ok⟩,B1⟩
   have et:BE (Aa A6) (f+1) (.mk 4 [] 0 (ts.map (inst σ 0))) B=((bif ok&&!Aa A6 out.length then some out else none),B1):=by grind[BE]
   rw[et] at rX ⊢;have hmul:ts.length*A6<=ts.length*2 ^ 20:=E1 _ AA;refine xm AB AB (mem AK AK λt ht=>?_) hu rX hx hs
   grind[wt,I9,List.mem_map_of_mem]
  .grind[BE,ren]
  .simp only[A9,AI] at hv
   obtain⟨_,Km,Oj,_⟩:=hv;have e1:inst σ 0 (.mk 6 [] 0 [b,body])=.mk 6 [] 0 [b,inst σ 1 body]:=by grind[Di,ER,JW]
   have hcy:CB (1+σ.length) body=true:=by
    have:=Dd hc AK;simp only[EF,AI] at this;have h2:=this.2.1;rw[Nf];exact h2
   rw[e1] at hx rX ⊢;have et:BE (Aa A6) (f+1) (.mk 6 [] 0 [b,inst σ 1 body]) B=jt A6 (BE (Aa A6) f) b (inst σ 1 body) B:=AR;rw[et] at rX ⊢;simp only[Ci] at hdp;simp only[Ac] at hsz;rw[wt] at hw;simp only[CZ,AN,tW,MT,wx] at hw
   have pg:wt b<2 ^ 37/\wt body<2 ^ 37:=by
    have p3:1*wt b<=max 1 (cv body)*wt b:=B5 _ AA;omega
   refine rm hn J8 hM Km hcb Oj hcy AA hw ?_ hσ ?_ ?_ rX hx hs
   .intro l hl t ht
    have hpy:=GD (BC:=Aa A6) f (inst (B.length::σ) 0 body) (B++[b])
    have hB1:(BE (Aa A6) f (inst (B.length::σ) 0 body) (B++[b])).2.length<=M:=by
     have:=ACL (A6:=A6) (f:=f) Oj hcy b B;omega
    have hBl:=hpy.length_le;simp only[Bo,B4,B6] at hBl;obtain⟨z1,z2,z3,z4⟩:=Jh (B.length::σ) body 0 Oj
    obtain⟨_,y2⟩:=Iw (BC:=Aa A6) f (inst (B.length::σ) 0 body) (B++[b]) M (qM M) l (λi h1 h2=>by grind) (Iz (λx hx=>by
     simp only[AI,Cq,Bo,B4,B6]
     grind) body 0 Oj) hl hB1 t ht
    have h1:=aB (BC:=Aa A6) f (inst (B.length::σ) 0 body) (B++[b]) l hl t ht;rw[mj _ _ _ Oj] at h1;have y3:Bb (·==(B.length:Int)) t<=cv body:=BM (TV (λ_ _=>rfl) t) h1;have y4:Bb (·==(B.length:Int)) t*wt b<=max 1 (cv body)*wt b:=B5 _ AA;omega
   .intro B' jY x hx s hs
    have:=ih b [] AA Km hcb pg.1 AA B' (λy hy=>by grind)
    grind[Ej]
   grind
end
theorem fD:∀(n:Nat) (l:List Int),l.Nodup->(∀i∈l,0<=i/\i<(n:Int))->l.length<=n:=by
 intro n
 induction n with
 | zero=>
  intro l _ h;cases l with
  | nil=>simp
  | cons a l=>
   have:=h a AD;omega
 | succ n ih=>
  intro l hn h
  by_cases hm:(n:Int)∈l
  .have h1:=ih (l.erase (n:Int)) (hn.erase _) (λi hi=>by grind)
   grind
  grind
theorem Rl.nR {B:List Ty} {lo hi:Nat} {b:Br} {p:Ty} {φ:List Nat} (H:Rl false 0 B lo hi [] b p φ):(occs b.body []).length<=φ.length:=by
 refine fD _ _ (HA b.body [] GM) λi hi=>?_
 rcases J2 b.body [] i hi with h|h
 .cases h
 .rcases H.vis i h with h|h|h
  all_goals grind
structure Wx (t b:Ty):Prop where
 val:valid b=true
 cl:CB 0 b=true
 dep:depth b<depth t
 Ko:size b<size t
 wts:wt b<=wt t
 bws:bw b<=bw t
 nbs:nb b<=nb t
theorem AI6 (t:Ty):1<=nF t:=by grind[nF]
theorem VT {P:Ty->Prop}:∀{l:List Ty},(∀t∈l,Ee P t)->NB P l
 | [],_=>trivial
 | t::l,h=>by
  rw[NB];exact⟨h t AD,VT λa ha=>h a AB⟩
theorem xo:∀(m:Nat) (t:Ty),depth t<=m->valid t=true->Ee (Wx t) t:=by
 intro m
 induction m with
 | zero=>
  intro t hd;obtain⟨k,n,i,ts⟩:=t
  grind[depth]
 | succ m ih=>
  intro t hd hv;obtain⟨k,n,i,ts⟩:=t;have Lh:=hv;simp only[valid,AI] at hv;simp only[depth] at hd
  have up:∀t0∈ts,(wt t0<=wt (.mk k n i ts)/\bw t0<=bw (.mk k n i ts)/\nb t0<=nb (.mk k n i ts))->Ee (Wx (.mk k n i ts)) t0:=by
   intro t0 h0 h1;have sA:=HQ h0;have hs0:=F8 h0;refine YA (λb hb=>?_) t0 (ih t0 AA (Bz hv.2 h0));exact⟨hb.val,hb.cl,by have:=hb.dep; grind[depth],by have:=hb.Ko; grind[size],BM hb.wts h1.1,BM hb.bws h1.2.1,BM hb.nbs h1.2.2⟩
  have mem3:∀(hk:(k==6)=false) (hk2:(k==3||k==4)=true),∀t0∈ts,wt t0<=wt (.mk k n i ts)/\bw t0<=bw (.mk k n i ts)/\nb t0<=nb (.mk k n i ts):=by
   intro hk hk2 t0 h0;rw[wt,bw,nb,hk,hk2];simp only[AL,AN,I9,Fl,RR];have h1:=Dz (Ed (f:=wt) h0);have h2:=Dz (Ed (f:=bw) h0);have h3:=Dz (Ed (f:=nb) h0);omega
  have hty:∀l:List Ty,(∀t∈l,t∈ts)->True:=λ_ _=>trivial
  rw[Ee]
  by_cases h6:k=6
  .subst h6
   rcases Ki hv.1 with h' | h' | h' | h' | h' | h' | ⟨_,rfl,rfl,b,body,rfl,hcb⟩
   iterate 6 exact absurd h' AD
   simp only[A9,AI] at hv;have e1:wt (.mk 6 [] 0 [b,body])=wt body+max 1 (cv body)*wt b:=rfl;have e2:bw (.mk 6 [] 0 [b,body])=bw body+1+(cv body+1)*bw b:=rfl;have e3:nb (.mk 6 [] 0 [b,body])=1+nb body+nF body*nb b:=rfl;have w1:1*wt b<=max 1 (cv body)*wt b:=B5 _ AA;have w3:1*bw b<=(cv body+1)*bw b:=B5 _ AA;have w4:1*nb b<=nF body*nb b:=B5 _ (AI6 body);refine⟨λ_ b' body' he=>?_,λ_=>VT λt0 h0=>up t0 h0 ?_⟩
   .cases he
    exact⟨hv.2.1,hcb,by grind[depth,Ci],by grind[size,Ac],AA,AA,AA⟩
   grind
  grind[VT]
theorem xp {α β:Type} (p:α->Bool) (g:α->List β) (q:β->Bool):∀l:List α,(l.all p&&(l.flatMap g).all q)=l.all λb=>p b&&(g b).all q
 | []=>rfl
 | a::l=>by grind
theorem all_congr {α:Type} {p q:α->Bool}:∀{l:List α},(∀a∈l,p a=q a)->l.all p=l.all q
 | [],_=>rfl
 | a::l,h=>by
  rw[Gz,Gz,h a AD,all_congr λb hb=>h b AB]
theorem CE.map_eq {α β γ:Type} {R:α->β->Prop} {f:α->γ} {g:β->γ} (h:∀a b,R a b->f a=g b):∀{l:List α} {m:List β},CE R l m->l.map f=m.map g
 | [],[],_=>rfl
 | a::l,b::m,⟨h1,h2⟩=>by rw[CP,CP,h a b h1,h2.map_eq h]
 | [],_::_,h=>h.elim
 | _::_,[],h=>h.elim
theorem Oo {t:Ty} {f:Nat} (hv:valid t=true) (hc:CB 0 t=true):∀b∈(BE (Aa 32) f t []).2,Wx t b:=by
 have:=YC (BC:=Aa 32) (P:=Wx t) f t [] hv hc (xo _ t (AY _) hv) [] (λb hb=>by grind)
 grind[Ej]
theorem AQe:∀(f:Nat) (t:Ty),(verdict t=0->CR (bw t))->xP f t=xR f t:=by
 intro f
 induction f with
 | zero=>intro t _; rfl
 | succ f ih=>
  intro t hs;rw[xP,xR];cases hg:!(verdict t==0)||!(CB 0 t) with
  | true=>rfl
  | false=>
   simp only[Gw,Bool.not_eq_false',Gx] at hg;obtain⟨hv,hc⟩:=hg;have hs:=hs hv;obtain⟨hv,_,_⟩:=DX hv;simp only[AL];have h:=jW (BC:=Aa 32) rfl rfl (depth t) t [] hv hc GM hs [] (λx hx=>by grind);rw[Ej hv hc] at h;have hb:=Oo (f:=depth t) hv hc;have hsz:=DC (BC:=Aa 32) (depth t) t;generalize DK (Aa 32) (depth t) t=o at h hsz;generalize BE (Aa 32) (depth t) t []=o2 at h hb;rcases o with _|l <;> rcases o2 with ⟨_|ps,B⟩
   .rfl
   .exact h.elim
   .exact h.elim
   .obtain⟨_,h2⟩:=h
    simp only at hb ⊢
    have e:l.map EA=ps.map (JY B):=by
     have h3:CE (λb p=>b∈l/\∃φ,Rl false 0 B ([]:List Ty).length B.length [] b p φ) l ps:=by
      have gen:∀(l':List Br) (ps':List Ty),(∀b∈l',b∈l)->CE (λb p=>∃φ,Rl false 0 B ([]:List Ty).length B.length [] b p φ) l' ps'->CE (λb p=>b∈l/\∃φ,Rl false 0 B ([]:List Ty).length B.length [] b p φ) l' ps':=by
       intro l'
       induction l' with
       | nil=>intro ps' _ h; cases ps' with
        | nil=>trivial
        | cons _ _=>exact h.elim
       | cons a l' ihl=>
        intro ps' hm h;cases ps' with
        | nil=>exact h.elim
        | cons p ps'=>exact⟨⟨hm a AD,h.1⟩,ihl ps' (λb hb=>hm b AB) h.2⟩
      grind
     refine h3.map_eq λb p ⟨Qh,φ,H⟩=>(wU H (AY _) (Cp hs ?_)).symm
     have:=H.nR;have:=H.len
     grind
    rw[e,xp]
    have hall:(ps.map (JY B)).all (λb=>Md b&&b.bounds.all λb=>Cs (xP f b))=(ps.map (JY B)).all (λb=>Md b&&b.bounds.all λb=>Cs (xR f b)):=by
     refine all_congr λb uy=>?_
     obtain⟨p,_,rfl⟩:=Cv.1 uy;congr 1;refine all_congr λc MW=>?_
     rw[ih c];intro hvc;have MW:c∈(K4 B.length p []).2.map λx=>B.getD x bW:=MW
     obtain⟨x,_,rfl⟩:=Cv.1 MW;rw[TC];cases hx:B[x]? with
     | none=>exact Cp hs (AO _)
     | some c=>exact Cp hs (hb c (A5 hx)).bws
    rw[hall]
mutual
def vP (p:Int->Bool):Ty->Bool
 | .mk k n i ts=>bif k==5 then n==[]&&(ts.isEmpty&&p i) else bif k==2||k==3 then Qi p ts else true
def Qi (p:Int->Bool):List Ty->Bool
 | []=>true
 | t::l=>vP p t&&Qi p l
end
mutual
theorem aW {p q:Int->Bool} (h:∀i,p i=true->q i=true):∀t:Ty,vP p t=true->vP q t=true
 | .mk k n i ts,ht=>by
  rw[vP] at ht ⊢;cases h5:k==5 with
  | true=>
   grind
  | false=>
   rw[h5] at ht;cases h2:k==2||k==3 with
   | true=>
    rw[h2] at ht;exact VU h ts ht
   | false=>rfl
theorem VU {p q:Int->Bool} (h:∀i,p i=true->q i=true):∀l:List Ty,Qi p l=true->Qi q l=true
 | [],_=>rfl
 | t::l,hl=>by
  simp only[Qi,AI] at hl ⊢;exact⟨aW h t hl.1,VU h l hl.2⟩
end
theorem VV (p:Int->Bool):∀(l m:List Ty),Qi p (l++m)=(Qi p l&&Qi p m)
 | [],m=>by rfl
 | t::l,m=>by simp[Qi,VV p l m,Lo]
theorem QH:∀(l m:List Ty),Ac (l++m)=Ac l+Ac m
 | [],m=>by simp[Ac]
 | t::l,m=>by simp only[DD,Ac,QH l m]; omega
mutual
theorem Oq {p q:Int->Bool} {g:Int->Int} (h:∀i,p i=true->q (g i)=true):∀t:Ty,vP p t=true->vP q (Bh (λi=>var (g i)) t)=true/\size (Bh (λi=>var (g i)) t)=size t
 | .mk k n i ts,ht=>by
  rw[vP] at ht;rw[Bh];cases h5:k==5 with
  | true=>
   grind[size,vP]
  | false=>
   rw[h5] at ht;simp only[AL] at ht ⊢;cases h2:k==2||k==3 with
   | true=>
    rw[h2] at ht;obtain⟨i1,i2⟩:=nS h ts ht
    grind[size,vP]
   | false=>
    grind[vP]
theorem nS {p q:Int->Bool} {g:Int->Int} (h:∀i,p i=true->q (g i)=true):∀l:List Ty,Qi p l=true->Qi q (Bq (λi=>var (g i)) l)=true/\Ac (Bq (λi=>var (g i)) l)=Ac l
 | [],_=>⟨rfl,rfl⟩
 | t::l,hl=>by
  simp only[Qi,AI] at hl;obtain⟨i1,i2⟩:=Oq h t hl.1;obtain⟨j1,j2⟩:=nS h l hl.2
  grind[Bq,Qi,Ac]
end
mutual
theorem AEq {p:Int->Bool} {c:Ty} (hc:vP p c=true):∀(b:Ty) (k:Nat),vP p b=true->vP p (M3 c b k)=true/\size (M3 c b k)<=size b+size c
 | .mk d n i ts,k,hb=>by
  have hb':=hb;rw[vP] at hb;rw[M3];cases h5:d==5 with
  | true=>
   grind
  | false=>
   rw[h5] at hb;simp only[AL] at hb ⊢;cases h3:d==3 with
   | true=>
    have h23:(d==2||d==3)=true:=AB;rw[h23] at hb;obtain⟨i1,i2⟩:=xq hc ts k hb
    grind[size,vP]
   | false=>grind
theorem xq {p:Int->Bool} {c:Ty} (hc:vP p c=true):∀(l:List Ty) (k:Nat),Qi p l=true->Qi p (HU c l k)=true/\Ac (HU c l k)<=Ac l+size c
 | [],_,_=>⟨rfl,AO _⟩
 | t::l,k,hl=>by
  simp only[Qi,AI] at hl;rw[HU];cases decide (k<(Al t).length) with
  | true=>
   obtain⟨i1,i2⟩:=AEq hc t k hl.1
   grind[Qi,Ac]
  | false=>
   obtain⟨i1,i2⟩:=xq hc l (k-(Al t).length) hl.2
   grind[Qi,Ac]
end
mutual
theorem Tc {p:Int->Bool}:∀t:Ty,vP p t=true->∀i∈Al t,p i=true
 | .mk k n i ts,ht,j,hj=>by
  rw[vP] at ht;rw[Al] at hj;cases h5:k==5 with
  | true=>
   grind
  | false=>
   rw[h5] at ht hj;cases h3:k==3 with
   | true=>
    have h23:(k==2||k==3)=true:=AB;rw[h3] at hj;rw[h23] at ht;exact fE ts ht j hj
   | false=>grind
theorem fE {p:Int->Bool}:∀l:List Ty,Qi p l=true->∀i∈Bs l,p i=true
 | [],_,_,hj=>by cases hj
 | t::l,hl,j,hj=>by
  simp only[Qi,AI] at hl;rw[Bs] at hj;rcases B7.1 hj with hj|hj
  .exact Tc t hl.1 j hj
  .exact fE l hl.2 j hj
end
mutual
theorem NF:∀t:Ty,valid t=true->vP (λi=>decide (0<=i)&&decide (i<=200)) t=true
 | .mk k n i ts,h=>by
  have h':=h;simp only[valid,AI] at h;rw[vP];cases h5:k==5 with
  | true=>
   grind[Eb,LW]
  | false=>
   simp only[AL];rw[YM ts h.2];simp
theorem YM:∀l:List Ty,A9 l=true->Qi (λi=>decide (0<=i)&&decide (i<=200)) l=true
 | [],_=>rfl
 | t::l,h=>by
  simp only[A9,AI] at h;rw[Qi,NF t h.1,YM l h.2];rfl
end
abbrev Sv (N:Nat):Int->Bool:=λi=>decide (-201<=i)&&(decide (i<N)||i==hole)
theorem nT {N:Nat} {i:Int}:Sv N i=true<->-201<=i/\(i<N\/i=hole):=AD
theorem AI7 {N M:Nat} (h:N<=M) (i:Int) (hi:Sv N i=true):Sv M i=true:=AB
theorem count_map {l:List Int} {g:Int->Int} (h:∀i∈l,g i=hole->i=hole) (h0:l.count hole=0):(l.map g).count hole=0:=by grind[List.count_eq_zero]
theorem Ot (n:Nat):Hr n=Bh λi=>var (bif decide (0<=i)&&!(i==hole) then i+n else i):=by grind[Hr]
theorem AQg {N n:Nat} {i:Int} (hi:Sv N i=true):Sv (n+N) (bif decide (0<=i)&&!(i==hole) then i+n else i)=true:=by grind[decide]
theorem ACN {N n:Nat} (h:((n+N:Nat):Int)<hole) {i:Int} (hi:Sv N i=true) (he:(bif decide (0<=i)&&!(i==hole) then i+n else i)=hole):i=hole:=AB
structure MC (W:Nat) (b:Br):Prop where
 ok:vP (Sv b.bounds.length) b.body=true
 Ko:size b.body<=W
 nh:(Al b.body).count hole=0
theorem MC.le {W V:Nat} {b:Br} (h:MC W b) (hl:W<=V):MC V b:=⟨h.ok,BM h.Ko hl,h.nh⟩
theorem MC.shift {W:Nat} {c:Br} (h:MC W c) {n:Nat} (hs:((n+c.bounds.length:Nat):Int)<hole):vP (Sv (n+c.bounds.length)) (Hr n c.body)=true/\size (Hr n c.body)<=W/\(Al (Hr n c.body)).count hole=0:=by
 rw[Ot];obtain⟨i1,i2⟩:=Oq (q:=Sv (n+c.bounds.length)) (g:=λi=>bif decide (0<=i)&&!(i==hole) then i+n else i) (λi hi=>AQg hi) c.body h.ok;refine⟨i1,by rw[i2]; exact h.Ko,?_⟩;rw[EL];exact count_map (λi hi he=>ACN hs (Tc _ h.ok i hi) he) h.nh
section
variable {BC:Nat->Bool}
theorem aX {W:Nat} {b c:Br} {k:Nat} (hb:vP (Sv b.bounds.length) b.body=true) (hk:Fh b.body=some k) (hc:MC W c) (hs:((b.bounds.length+c.bounds.length:Nat):Int)<hole) :
  vP (Sv (DV b k c).bounds.length) (DV b k c).body=true/\size (DV b k c).body<=size b.body+W/\(Al (DV b k c).body).count hole+1=(Al b.body).count hole/\k<(Al b.body).length:=by
 obtain⟨s1,s2,s3⟩:=hc.shift hs;have el:(DV b k c).bounds.length=b.bounds.length+c.bounds.length:=by simp[DV]
 obtain⟨f1,f2⟩:=Ei hk;have hkl:k<(Al b.body).length:=(BA.1 f1).1;obtain⟨t1,t2⟩:=Ug f1 f2;have e:(DV b k c).body=M3 (Hr b.bounds.length c.body) b.body k:=rfl;obtain⟨r1,r2⟩:=AEq s1 b.body k (aW (λi hi=>AI7 (NW _ _) i hi) _ hb)
 grind[Py]
theorem nU {l:List Br} {W w S T:Nat} (hl:∀c∈l,MC W c/\c.bounds.length<=w) (hT:(T:Int)<hole):∀(f:Nat) (b:Br) (r:List Br),vP (Sv b.bounds.length) b.body=true->(Al b.body).count hole<=f->size b.body+(Al b.body).count hole*W<=S->b.bounds.length+(Al b.body).count hole*w<=T ->
  EK BC l f b=some r->∀d∈r,MC S d
 | 0,b,r,hb,hf,hS,_,h,d,hd=>by
  rw[EK] at h;cases h;rw[Dl.1 hd];exact⟨hb,AA,AA⟩
 | f+1,b,r,hb,hf,hS,hTb,h,d,hd=>by
  rw[EK] at h;cases hk:Fh b.body with
  | none=>
   rw[hk] at h;cases h;rw[Dl.1 hd];refine⟨hb,AA,?_⟩;rw[Nb];intro hm;have h2:(Al b.body).findIdx? (·==hole)=none:=hk
   grind
  | some k=>
   rw[hk] at h;rcases J0 h d hd with h' | ⟨c,h1,s,h2,h3⟩
   .grind
   .obtain⟨hc,hcw⟩:=hl c h1
    have hpos:0<(Al b.body).count hole:=by
     have hfs:=Ei hk
     grind
    have m0:1*w<=(Al b.body).count hole*w:=B5 _ hpos;obtain⟨g1,g2,g3,_⟩:=aX hb hk hc AA;have el:(DV b k c).bounds.length=b.bounds.length+c.bounds.length:=by simp[DV]
    have m1:(Al b.body).count hole*W=(Al (DV b k c).body).count hole*W+W:=by rw[<-g3,KV]
    have m2:(Al b.body).count hole*w=(Al (DV b k c).body).count hole*w+w:=by rw[<-g3,KV]
    exact nU hl hT f _ s g1 AA AA AA h2 d h3
theorem ACO (n:Nat) (t:Ty):Hw n t=Bh (λi=>var (bif i==-1 then(n:Int) else bif decide (i<0) then i+1 else i)) t:=by rw[Kz]
theorem AI8 {W:Nat} {b:Br} (h:MC W b) (hs:((b.bounds.length:Nat):Int)<hole):vP (Sv (b.bounds.length+1)) (Hw b.bounds.length b.body)=true/\size (Hw b.bounds.length b.body)=size b.body/\(Al (Hw b.bounds.length b.body)).count hole=0:=by
 rw[ACO];obtain⟨i1,i2⟩:=Oq (q:=Sv (b.bounds.length+1)) (g:=λi=>bif i==-1 then(b.bounds.length:Int) else bif decide (i<0) then i+1 else i) (λi hi=>by grind) b.body h.ok;refine⟨i1,i2,?_⟩;rw[EL];refine count_map (λi hi he=>?_) h.nh
 grind
theorem AI9 {N:Nat} {t:Ty} (h:vP (Sv (N+1)) t=true) (hs:(N:Int)<hole):vP (Sv N) (JE N hole t)=true/\size (JE N hole t)=size t:=by
 rw[J1];refine Oq (q:=Sv N) (g:=λi=>bif i==(N:Int) then hole else i) (λi hi=>?_) t h
 grind
theorem xu {W Wb w C:Nat} {RE:Option (List Br)} {bound:Ty} {b:Br} (hb:MC W b) (hC:(Al b.body).length<=C) (hl:∀l,RE=some l->∀c∈l,MC Wb c/\c.bounds.length<=w) {T:Nat} (hT:(T:Int)<hole) (hbT:b.bounds.length+(Al b.body).length*w<=T) {r:List Br} (h:E9 BC RE bound b=some r):∀d∈r,MC (W+C*Wb) d:=by
 have hs:((b.bounds.length:Nat):Int)<hole:=AA;obtain⟨b1,b2,b3⟩:=AI8 hb hs;obtain⟨r1,r2⟩:=AI9 b1 hs;have aH:=hb.Ko;intro d hd;unfold E9 at h;cases ho:oI (·==(b.bounds.length:Int)) (Hw b.bounds.length b.body) with
 | true=>
  rw[ho] at h;cases h;rw[Dl.1 hd];exact⟨AB,AB,b3⟩
 | false=>
  rw[ho] at h;simp only[AL] at h;cases hk:Fh (JE b.bounds.length hole (Hw b.bounds.length b.body)) with
  | none=>
   rw[hk] at h;cases h;rw[Dl.1 hd];refine⟨r1,AB,?_⟩;rw[Nb];intro hm;have h2:(Al (JE b.bounds.length hole (Hw b.bounds.length b.body))).findIdx? (·==hole)=none:=hk
   grind
  | some k=>
   rw[hk] at h;cases hb':RE with
   | none=>grind
   | some l=>
    rw[hb'] at h;simp only at h;have E6:(Al (JE b.bounds.length hole (Hw b.bounds.length b.body))).length=(Al b.body).length:=by simp[*,J1,EL,Kz]
    have RI:(Al (JE b.bounds.length hole (Hw b.bounds.length b.body))).count hole<=(Al b.body).length:=AB;have hcs:=Gc b.body;refine nU (S:=W+C*Wb) (T:=T) (λc hc=>hl l hb' c hc) hT _ ⟨b.bounds,JE b.bounds.length hole (Hw b.bounds.length b.body)⟩ r r1 RI ?_ ?_ h d hd
    .have m1:(Al (JE b.bounds.length hole (Hw b.bounds.length b.body))).count hole*Wb<=C*Wb:=B5 _ AA
     grind
    .have m1:(Al (JE b.bounds.length hole (Hw b.bounds.length b.body))).count hole*w<=(Al b.body).length*w:=B5 _ RI
     grind
end
section
variable {BC:Nat->Bool}
theorem xw {W S:Nat} {b c:Br} {args:List Ty} (hb:MC S b) (he:b.body=.mk 3 [] 0 args) (hc:MC W c) (hs:((b.bounds.length+c.bounds.length:Nat):Int)<hole):MC (S+W) ⟨b.bounds++c.bounds,.mk 3 [] 0 (args++[Hr b.bounds.length c.body])⟩:=by
 obtain⟨s1,s2,s3⟩:=hc.shift hs;have hok:=hb.ok;have hsz:=hb.Ko;have hnh:=hb.nh;rw[he] at hok hsz hnh;have hok:Qi (Sv b.bounds.length) args=true:=Ba;have hsz:Ac args+1<=S:=Ba;have hnh:(Bs args).count hole=0:=Ba;refine⟨?_,?_,?_⟩
 all_goals grind[vP,Qi,VV,VU,size,QH,Ac,Al,Xl]
theorem xx {T:Nat} (hT:(T:Int)<hole):∀{ls:List (List Br)} {ws vs:List Nat} {out r:List Br} {N S:Nat},(CE (λl w=>∀c∈l,MC w c) ls ws)->(CE (λl w=>∀c∈l,c.bounds.length<=w) ls vs) ->
  (∀b∈out,MC S b/\b.bounds.length<=N/\∃args,b.body=.mk 3 [] 0 args)->N+vs.sum<=T->Ir BC ls out=some r->∀d∈r,MC (S+ws.sum) d
 | [],[],[],out,r,N,S,_,_,ho,_,h,d,hd=>by grind[Ir]
 | [],_::_,_,_,_,_,_,h,_,_,_,_,_,_=>h.elim
 | [],[],_::_,_,_,_,_,_,h,_,_,_,_,_=>h.elim
 | _::_,[],_,_,_,_,_,h,_,_,_,_,_,_=>h.elim
 | _::_,_::_,[],_,_,_,_,_,h,_,_,_,_,_=>h.elim
 | l::ls,w::ws,v::vs,out,r,N,S,⟨hw,hws⟩,⟨hv,hvs⟩,ho,hN,h,d,hd=>by
  rw[Ir] at h;rw[Ln] at hN;cases hb:BC (HN out l).length with
  | true=>grind
  | false=>
   rw[hb] at h;have:=xx hT (N:=N+v) (S:=S+w) hws hvs ?_ AA h d hd
   all_goals grind[HN,xw]
theorem VW:∀(f:Nat) (t:Ty) (l:List Br),valid t=true->CR (bw t)->DK BC f t=some l->∀b∈l,MC (wt t) b:=by
 intro f
 induction f with
 | zero=>
  grind[DK]
 | succ f ih=>
  intro t l hv hs h d hd;obtain⟨k,n,i,ts⟩:=t;have Lh:=hv;simp only[valid,AI] at hv;rw[DK] at h;have rz:∀(hk:(k==6)=false) (hk2:(k==3||k==4)=true),∀t0∈ts,CR (bw t0):=by grind[Cp,bw,Fl,Dz]
  rcases Ki hv.1 with ⟨rfl,rfl,rfl,rfl⟩|⟨rfl,rfl,rfl,rfl⟩|rfl|⟨rfl,rfl,rfl⟩|⟨rfl,rfl,rfl,hne⟩|⟨rfl,rfl,rfl,h0⟩|⟨rfl,rfl,rfl,b,body,rfl,hcb⟩
  .cases h
   rw[Dl.1 hd];exact⟨rfl,by grind[size,wt],rfl⟩
  .grind
  .have hm:∀i,(decide (0<=i)&&decide (i<=200))=true->Sv 0 (-1-i)=true:=λi hi=>by grind
   obtain⟨m1,m2⟩:=Oq hm _ (NF _ Lh);cases h;rw[Dl.1 hd];refine⟨m1,?_,?_⟩
   all_goals simp[*,size,L8,wt,Nf,Al,EL]
  .simp only[show((3:Int)==0)=false from rfl,show((3:Int)==2||(3:Int)==5)=false from rfl,AL,CZ,AN] at h
   cases xz:Fb (ts.map (DK BC f)) with
   | none=>grind
   | some ls=>
    rw[xz] at h;simp only at h;have ha:=Iu xz;cases he:ls.any List.isEmpty with
    | true=>grind
    | false=>
     rw[he] at h;have Xj:=rz rfl rfl;have q1:CE (λl w=>∀c∈l,MC w c) ls (ts.map wt):=ha.Hl λt l hm hg c hc=>ih t l (Bz hv.2 hm) (Xj t hm) hg c hc
     have q2:CE (λl w=>∀c∈l,c.bounds.length<=w) ls (ts.map bw):=ha.Hl λt l _ hg c hc=>(DC f t l hg c hc).1
     have:=xx (T:=bw (.mk 3 [] 0 ts)) hs (N:=0) (S:=1) q1 q2 (λb hb=>by
      rw[Dl.1 hb];exact⟨⟨rfl,by simp[size,Ac],rfl⟩,AD,_,rfl⟩) (by grind[bw,Fl]) h d hd
     grind[wt,I9]
  .simp only[show((4:Int)==0)=false from rfl,show((4:Int)==2||(4:Int)==5)=false from rfl,show((4:Int)==3)=false from rfl,AL,CZ,AN] at h
   cases xz:Fb (ts.map (DK BC f)) with
   | none=>grind
   | some ls=>
    rw[xz] at h;simp only at h;have ha:=Iu xz;cases hb:BC ls.flatten.length with
    | true=>grind
    | false=>
     rw[hb] at h;cases h;obtain⟨l',h1,h2⟩:=TB.1 hd;obtain⟨t,h3,h4⟩:=ha.LP l' h1;refine(ih t l' (Bz hv.2 h3) (rz rfl rfl t h3) h4 d h2).le ?_;have e:wt (.mk 4 [] 0 ts)=1+(ts.map wt).sum:=by grind[wt,I9]
     have:=Dz (Ed (f:=wt) h3);omega
  .have hm:∀i,(decide (0<=i)&&decide (i<=200))=true->Sv 0 (-1-i)=true:=λi hi=>by grind
   obtain⟨m1,m2⟩:=Oq hm _ (NF _ Lh);cases h;rw[Dl.1 hd];refine⟨m1,?_,?_⟩
   .simp[*,size,L8,wt,Nf]
   .show(Al (rM _)).count hole=0
    rw[L8,EL,Al]
    grind[List.count_eq_zero,hole]
  .simp only[show((6:Int)==0)=false from rfl,show((6:Int)==2||(6:Int)==5)=false from rfl,show((6:Int)==3)=false from rfl,show((6:Int)==4)=false from rfl,AL,CZ,AN,dA] at h
   simp only[A9,AI] at hv;obtain⟨_,Km,Oj,_⟩:=hv;have hbw:bw (.mk 6 [] 0 [b,body])=bw body+1+(cv body+1)*bw b:=rfl;have iH:CR (bw b):=Cp hs AB;have hsy:CR (bw body):=Cp hs AA;cases hb:DK BC f body with
   | none=>grind
   | some l0=>
    rw[hb] at h;simp only at h;rcases J0 h d hd with h' | ⟨a,h1,s,h2,h3⟩
    .grind
    .obtain⟨z1,z2⟩:=DC f body l0 hb a h1
     have e:wt (.mk 6 [] 0 [b,body])=wt body+max 1 (cv body)*wt b:=rfl;rw[e];refine xu (T:=bw (.mk 6 [] 0 [b,body])) (w:=bw b) (ih body l0 Oj hsy hb a h1) (C:=max 1 (cv body)) AA (λl hl c hc=>⟨ih b l Km iH hl c hc,(DC f b l hl c hc).1⟩) hs ?_ h2 d h3;have m1:(Al a.body).length*bw b<=cv body*bw b:=B5 _ z2
     grind
end
theorem BG.nV {E:Env} {L:BI} {f:FuncId} {args:List AV} {s s':AQ} {v:AV} {T:BI->List AV->AQ->Option (AV×AQ)} {fn:Func} (hfn:E.P.funcs[f]?=some fn) (hc:E.clone f=true) (ht:E.told f=some T) (h:T L args s=some (v,s')):BG E L f args s v s':=by
 refine⟨1,λm hm=>?_⟩;obtain⟨m,rfl⟩:∃m',m=m'+1:=⟨m-1,AA⟩
 grind[Dw,N9]
theorem YN {l:List Int} (hs:l.Pairwise (·<·)) {h:Nat} {u:Int} (hu:l[h]?=some u):(∀x∈l.take (h+1),x<=u)/\(∀x∈l.drop h,u<=x)/\(∀x∈l.drop (h+1),u<x):=by
 have e:l=l.take h++u::l.drop (h+1):=by grind[drop_cons,List.take_append_drop]
 have hp:=hs;rw[e,List.pairwise_append] at hp;obtain⟨h1,h2,h3⟩:=hp;have h4:=(List.pairwise_cons.1 h2).1;refine⟨λx hx=>?_,λx hx=>?_,h4⟩
 all_goals grind
section
variable {R:RT}
theorem RS (w:Int):Ae (env R) 152 [AG w] λr=>r=BB false:=
 AaE (u0:=AG w) AD (AJA (EB ⟨_,GX,AD⟩))
theorem sB (w:Int):Ae (env R) 163 [AG w] λr=>r=BB false:=
 AaF (u0:=AG w) AD (AJB (EB ⟨_,GX,AD⟩))
theorem sC (a b:Int):Ae (env R) 162 [AG a,AG b] λr=>r=BB (decide (a<b)):=by
 refine AaG (u0:=AG a) (u1:=AG b) AD (AJC ?_);refine AH (RS a) ?_;rintro v rfl;exact Bf (Bf (Bf (pk (Ak (Ak (Ak (Ao (pk ⟨_,GX,rfl⟩))))))))
def yA (bs:List (List AV)) (l:List Int) (x:AV):Prop:=(x=.AE []/\l=[])\/∃id,x=.ref id 0 l.length 1/\bs[id]?=some (l.map λn=>AG n)/\l≠[]
theorem MD {s:AQ} {id:Nat} {l:List Int} (hid:s.bs[id]?=some (l.map λn=>AG n)) (hne:l≠[]):alive s id=true:=by
 obtain⟨c,r,hc⟩:∃c r,l=c::r:=by
  cases l with
  | nil=>grind
  | cons c r=>simp
 simp[*]
theorem QJ {want:Bool} {s:AQ} {W:(AV->AQ->Prop)->Prop} {K:AV->AQ->Prop} (h:K (.tuple []) s):UI (.tuple []) want s W K:=h
theorem ACP {s:AQ} {id i:Nat} {l:List Int} {w:Int} (hid:s.bs[id]?=some (l.map λn=>AG n)) (hne:l≠[]) (hw:l[i]?=some w) {K:AV->Prop} (h:K (AG w)):ND s 1 (.ref id 0 l.length 1) (AG i) λa=>Df (env R) s none a K:=by
 have hi:i<l.length:=(BA.1 hw).1;refine⟨⟨AA,AA,rfl,MD hid hne⟩,?_⟩
 simp_all
def Found (l:List Int) (w:Int) (i:Nat) (b:Bool):Prop:=i<=l.length/\(b=true->l[i]?=some w)/\(b=false->(∀u∈l.take i,u<w)/\∀u∈l.drop i,w<u)
theorem aY {w:Int} {l:List Int} (hs:l.Pairwise (·<·)) {id:Nat} {s:AQ} (hid:s.bs[id]?=some (l.map λn=>AG n)) (hne:l≠[]) (hl:l.length<2 ^ 40) {Post:AV->Prop} (hP:∀(i:Nat) b,Found l w i b->Post (.tuple [AG i,BB b])) {n0 ro rt n m:Nat} :
  ∀(d i j:Nat),j-i<=d->i<=j->j<=l.length->(∀u∈l.take i,u<w)->(∀u∈l.drop j,w<=u)->yB R n0 ro rt (.ref id 0 l.length 1) (AG w) (AG l.length) (AG i) (AG j) s (QI n m Post):=by
 have fin:∀(i:Nat) b,Found l w i b->QI n m Post (.tuple [AG i,BB b]) s:=λi b h=>⟨_,AD,hP i b h⟩
 intro d
 induction d with
 | zero=>
  intro i j h1 h2 h3 h4 h5;have e:i=j:=AA;subst e;refine ju (Ao ?_);simp only[Int.lt_irrefl,ZG];refine Ar (yC (Ao ?_))
  by_cases hi:i<l.length
  .obtain⟨u,hu⟩:∃u,l[i]?=some u:=⟨_,Ay hi⟩
   have b1:decide ((i:Int)<(l.length:Int))=true:=AB;rw[b1];refine Ak (Ak ?_);refine Ak ?_;have hi':i<l.length:=hi;refine⟨⟨AA,AA,rfl,MD hid hne⟩,?_⟩;have e:0+((i:Int).toNat)*1=i:=AA;rw[e];refine Ak ?_;simp only[Df,hid,wO,DQ,Fp,hu,Na];refine Ak (Ak (Av ?_));cases hb:(u==w) with
   | true=>
    have huw:u=w:=AB;subst huw;refine Ak ?_;refine K0 AD (K0 AD (K0 AD (K0 AD (K0 AD (K0 AD (QJ (QJ (K0 AD ?_))))))));exact Ak (pk (pk (fin i true ⟨h3,λ_=>hu,AD⟩)))
   | false=>
    have huw:u≠w:=AB
    have hf:Found l w i false:=⟨h3,AD,λ_=>⟨h4,λx hx=>by
     have h6:=(YN hs hu).2.1 x hx;have h7:=h5 u (by rw[drop_cons hu]; simp);omega⟩⟩
    refine Ak ?_;refine Ak (Ak (Ak ?_));refine⟨⟨AA,AA,rfl,MD hid hne⟩,?_⟩;rw[e];refine Ak ?_;simp only[Df,hid,wO,DQ,Fp,hu,Na];refine Ak ?_;refine AH (sB u) ?_;simp[*]
  .have b1:decide ((i:Int)<(l.length:Int))=false:=by grind
   rw[b1];refine K0 AD (K0 AD (K0 AD (K0 AD (K0 AD (K0 AD (K0 AD ?_))))));refine QJ (QJ (QJ (QJ (QJ (QJ (QJ (QJ (QJ ?_))))))));exact K0 AD (pk (fin i false ⟨h3,AD,λ_=>⟨h4,λx hx=>by grind⟩⟩))
 | succ d ih=>
  intro i j h1 h2 h3 h4 h5
  by_cases hij:i<j
  .refine ju (Ao ?_)
   have b1:decide ((i:Int)<(j:Int))=true:=AB;rw[b1];refine A1 (AJD (Be AA AA ?_));have hw1:IntKind.u64.wrap ((i:Int)+j)=(i:Int)+j:=by grind[IntKind.wrap,IntKind.bits,IntKind.signed]
   have AQh:∀(K:AV->Prop),K (.pv (.sc (.int .u64 ((i:Int)+j))))->Ou .u64 (AG ((i:Int)+j)) K:=by
    intro K h;simp only[Ou,hw1];exact h
   refine AQh _ ?_
   have AaH:∀(K:AV->Prop),K (.pv (.sc (.int .u64 (((i+j) / 2:Nat):Int))))->DI .u64 .shr (.pv (.sc (.int .u64 ((i:Int)+j)))) (.pv (.sc (.int .u64 1))) K:=by
    intro K h;refine⟨⟨rfl,rfl⟩,AA,?_⟩
    have e:((i:Int)+j).fdiv (2 ^ (min (1:Int).toNat IntKind.u64.bits))=(((i+j) / 2:Nat):Int):=by
     have:(2:Int) ^ (min (1:Int).toNat IntKind.u64.bits)=2:=AR
     grind
    grind
   refine AaH _ ?_
   have tP:IntKind.i64.wrap ((((i+j) / 2:Nat):Int))=(((i+j) / 2:Nat):Int):=by
    unfold IntKind.wrap;simp[IntKind.bits,IntKind.signed];omega
   have AJE:∀(K:AV->Prop),K (AG (((i+j) / 2:Nat):Int))->Ou .i64 (.pv (.sc (.int .u64 (((i+j) / 2:Nat):Int)))) K:=by
    intro K h;simp only[Ou,tP];exact h
   refine AJE _ ?_;generalize hh:(i+j) / 2=h at *;obtain⟨u,hu⟩:∃u,l[h]?=some u:=⟨_,Ay AA⟩;refine ACP hid hne hu ?_;refine AH (sC u w) ?_;rintro v rfl;have hsa:=YN hs hu
   by_cases hlt:u<w
   .rw[Aq hlt]
    refine A1 (Be AA AA ?_);have:=ih (h+1) j AA AA h3 (λx hx=>by grind) h5
    grind
   .rw[A2 hlt]
    exact Ar (ih i h AA AA AA h4 (λx hx=>by grind))
  .exact ih i j AA h2 h3 h4 h5
theorem aZ {w:Int} {l:List Int} (hs:l.Pairwise (·<·)) {x:AV} {s:AQ} (hx:yA s.bs l x) (hl:l.length<2 ^ 40) :
  ∃v,(∃(i:Nat) (b:Bool),v=.tuple [AG i,BB b]/\Found l w i b)/\∀L,BG (env R) L 142 [x,AG w] s v s:=by
 rcases hx with ⟨rfl,rfl⟩|⟨id,rfl,hid,hne⟩
 .have:Ae (env R) 142 [.AE [],AG w] λv=>∃(i:Nat) (b:Bool),v=.tuple [AG i,BB b]/\Found [] w i b:=by
   refine AaI (u0:=.AE []) (u1:=AG w) AD (yD ?_);simp;refine ju ?_;simp;refine yC ?_;simp[*,QP,Found]
  obtain⟨v,h1,h2⟩:=this
  grind
 .have E6:BK [] 0 0 [.ref id 0 l.length 1,AG w]=none:=by rfl
  refine i142 E6 (yD ?_);have hal:=MD hid hne
  have hlen:∀K:AV->Prop,K (AG l.length)->Gk s (.ref id 0 l.length 1) K:=by
   intro K h;simp only[Gk,BD,hal,AN,wO];exact h
  refine hlen _ ?_;exact aY hs hid hne hl (λi b h=>⟨i,b,rfl,h⟩) _ 0 l.length (AY _) AA (AY _) (λu hu=>by grind) (λu hu=>by grind)
end
mutual
def Qj (u:Nat):Ty->List Int
 | .mk k _ i ts=>(bif k==5&&decide ((u:Int)<=i) then [i-u] else [])++K2 u k 0 ts
def K2 (u:Nat) (k:Int) (j:Nat):List Ty->List Int
 | []=>[]
 | t::l=>Qj (u+ER k j) t++K2 u k (j+1) l
end
mutual
theorem QK:∀(t:Ty) (u:Nat),Qj u t=[]<->CB u t=true
 | .mk k n i ts,u=>by
  rw[Qj,CB];cases k==5&&decide ((u:Int)<=i) with
  | true=>simp
  | false=>simpa using YO ts u k 0
theorem YO:∀(l:List Ty) (u:Nat) (k:Int) (j:Nat),K2 u k j l=[]<->EF u k j l=true
 | [],_,_,_=>by simp[K2,EF]
 | t::l,u,k,j=>by
  rw[K2,EF,lR,QK t,YO l,AI]
end
mutual
theorem jv:∀(t:Ty) (u:Nat),(Qj u t).length<=size t
 | .mk k n i ts,u=>by
  have:=nW ts u k 0
  grind[Qj,size]
theorem nW:∀(l:List Ty) (u:Nat) (k:Int) (j:Nat),(K2 u k j l).length<=Ac l
 | [],_,_,_=>by simp[K2]
 | t::l,u,k,j=>by
  have:=jv t (u+ER k j);have:=nW l u k (j+1)
  grind[K2,Ac]
end
mutual
def ixs:Ty->Bool
 | .mk k _ i ts=>(!(k==5)||(decide (-(2 ^ 60)<=i)&&decide (i<2 ^ 60)))&&sD ts
def sD:List Ty->Bool
 | []=>true
 | t::l=>ixs t&&sD l
end
theorem jx {l:List Int} {w x:Int} {i:Nat}:x∈l.take i++w::l.drop i<->x∈l\/x=w:=by grind[List.take_append_drop]
theorem jy {l:List Int} {w:Int} {i:Nat} (hi:i<=l.length):(l.take i++w::l.drop i).length=l.length+1:=AB
theorem insert_sorted {l:List Int} {w:Int} {i:Nat} (hs:l.Pairwise (·<·)) (h1:∀u∈l.take i,u<w) (h2:∀u∈l.drop i,w<u):(l.take i++w::l.drop i).Pairwise (·<·):=by grind[List.pairwise_cons]
def NS (q:Nat) (l:List Int) (bs:List (List AV)):Prop:=∃x,bs[q]?=some [x]/\yA bs l x
structure iJ (q:Nat) (l l':List Int) (new:List Int) (s s':AQ):Prop where
 ns:NS q l' s'.bs
 srt:l.Pairwise (·<·)->l'.Pairwise (·<·)
 mem:∀x,x∈l'<->x∈l\/x∈new
 len:l'.length<=l.length+new.length
 ts:s'.ts=s.ts
 grow:s.bs.length<=s'.bs.length
 keep:∀(p:Nat) (k n:AV) (r:List AV),(∀i,n≠AG i)->s.bs[p]?=some (k::n::r)->s'.bs[p]?=some (k::n::r)
section
variable {R:RT}
theorem fF {w:Int} {l:List Int} {x:AV} {s:AQ} {q i:Nat} (hq:s.bs[q]?=some [x]) (hx:yA s.bs l x) (hl:l.length<2 ^ 20) (hi:i<=l.length) {L:BI} (hro:L.ro=0) :
  ∃id bs',BG (env R) L 143 [x,AG i,.AE [[.sc (.int .i64 w)]]] s (.ref id 0 (l.length+1) 1) ⟨bs',s.ts⟩/\bs'[id]?=some ((l.take i++w::l.drop i).map λn=>AG n)/\bs'[q]?=some [x]/\q≠id/\s.bs.length<=bs'.length/\q<bs'.length /\
   (∀(p:Nat) (k n:AV) (r:List AV),(∀i,n≠AG i)->s.bs[p]?=some (k::n::r)->bs'[p]?=some (k::n::r)):=by
 have hql:q<s.bs.length:=(BA.1 hq).1;have ei:(AG i)=.pv (.sc (.int .i64 (.ofNat i))):=rfl;rcases hx with ⟨rfl,rfl⟩|⟨id,rfl,hid,hne⟩
 .have uK:i=0:=by grind
  subst uK;refine⟨s.bs.length,s.bs++[[AG w]],BG.nV Tryz.func143 AR (T:=cY) AR ?_,?_,?_,AA,AD,AB,?_⟩
  .rfl
  all_goals grind
 .have hil:id<s.bs.length:=(BA.1 hid).1
  have AaJ:id≠q:=by
   intro e;subst e
   simp_all
  have h1:1<=l.length:=AB;refine⟨s.bs.length,s.bs.set id []++[(l.take i++w::l.drop i).map λn=>AG n],BG.nV Tryz.func143 AR (T:=cY) AR ?_,?_,?_,AA,AD,AB,?_⟩
  .have b1:Nat.beq l.length (l.map λn=>AG n).length=true:=by simp
   have b2:Nat.ble 1 l.length=true:=by simp[*]
   have b3:Nat.ble i l.length=true:=by simp[*]
   have b4:Nat.ble l.length 1000000000=true:=by simp; omega
   grind[Nat.ble,cY,A7,List.map_take,List.map_drop]
  .simp
  .rw[CX AB,FN AaJ,hq]
  .intro p k n r tS hp
   have LK:p<s.bs.length:=(BA.1 hp).1
   have:id≠p:=by
    intro e;subst e;rw[hp] at hid;rcases l with _|⟨a,_|⟨b,l⟩⟩
    all_goals grind
   rw[CX AB,FN this,hp]
theorem yE {w:Int} {l:List Int} (hsd:l.Pairwise (·<·)) {s:AQ} {q:Nat} (hns:NS q l s.bs) (hl:l.length<2 ^ 20) {L:BI} (hro:L.ro=0) (hn0:L.n0=0) :
  ∃v s',(v=.tuple []/\∃l',iJ q l l' [w] s s')/\BG (env R) L 118 [.ptr q 0,AG w] s v s':=by
 obtain⟨x,hq,hx⟩:=hns;have hql:q<s.bs.length:=(BA.1 hq).1;refine AaL (AJG (C2 (AU hq) (AM (AU hq) (AX (off:=0) hq rfl ?_))));obtain⟨v,⟨i,b,rfl,hf⟩,hc⟩:=aZ (R:=R) (w:=w) hsd hx AA;refine⟨_,_,hc _,CO rfl (CO rfl (nt ?_))⟩;obtain⟨hi,hb,hfb⟩:=hf;cases b with
 | true=>
  refine Ar ⟨rfl,l,⟨x,hq,hx⟩,λh=>h,λy=>⟨.inl,?_⟩,AD,rfl,AY _,λ_ _ _ _ _ h=>h⟩
  grind
 | false=>
  obtain⟨h8,h9⟩:=hfb rfl;obtain⟨id,bs',h1,h2,h3,h4,h5,h6,h7⟩:=fF (R:=R) (w:=w) hq hx hl hi (L:=CT (env R) 118 L.n0 L.ro L.rt) hro;refine A1 (C2 (AU hq) (AM (AU hq) (AX (off:=0) hq rfl (QE ?_))));refine⟨_,_,h1,C2 (AU h3) (AM (AU h3) (C3 h3 AD rfl (by simp[*]) rfl (.inl (by simp[*])) ?_))⟩;have rP:∀y,(bs'.set q y)[q]?=some y:=λy=>by grind
  refine⟨rfl,l.take i++w::l.drop i,⟨_,rP _,.inr ⟨id,by rw[jy hi],AB,AD⟩⟩,λhs=>insert_sorted hs h8 h9,λy=>?_,AB,rfl,AB,?_⟩
  all_goals grind[jx]
theorem iJ.refl {q:Nat} {l:List Int} {s:AQ} (h:NS q l s.bs):iJ q l l [] s s:=⟨h,λh=>h,AD,AD,rfl,AY _,λ_ _ _ _ _ h=>h⟩
theorem iJ.trans {q:Nat} {l l1 l2 n1 n2:List Int} {s s1 s2:AQ} (h1:iJ q l l1 n1 s s1) (h2:iJ q l1 l2 n2 s1 s2):iJ q l l2 (n1++n2) s s2:=by
 refine⟨h2.ns,λh=>h2.srt (h1.srt h),λx=>?_,?_,by rw[h2.ts,h1.ts],BM h1.grow h2.grow,λp k n r hn h=>h2.keep p k n r hn (h1.keep p k n r hn h)⟩
 .rw[h2.mem,h1.mem,B7]
  grind
 .have:=h1.len
  have:=h2.len
  grind
theorem iJ.push {q:Nat} {l:List Int} {s:AQ} (h:NS q l s.bs) (b:List AV):iJ q l l [] s ⟨s.bs++[b],s.ts⟩:=by
 obtain⟨x,hq,hx⟩:=h;have hql:q<s.bs.length:=(BA.1 hq).1;refine⟨⟨x,by rw[CX hql,hq],?_⟩,λh=>h,AD,AD,rfl,AD,λp k n r _ hp=>?_⟩
 .rcases hx with ⟨h1,h2⟩|⟨id,h1,h2,h3⟩
  .exact .inl ⟨h1,h2⟩
  .exact .inr ⟨id,h1,by rw[CX (BA.1 h2).1,h2],h3⟩
 grind
def yF (R:RT) (t:Ty):Prop:=∀(x:AV),A8 t x->∀(u:Nat),u+size t<2 ^ 30->∀(q:Nat) (l:List Int) (s:AQ) (L:BI),l.Pairwise (·<·)->NS q l s.bs->l.length+size t<2 ^ 19->L.ro=0->L.n0=0 ->
 ∃v s',(v=.tuple []/\∃l',iJ q l l' (Qj u t) s s')/\BG (env R) L 87 [x,AG u,.ptr q 0] s v s'
theorem yG (n:List UInt8) (i:Int):SS n≠AG i:=AD
theorem sF {k0 i0:Int} {n0':List UInt8} {ts:List Ty} {a:AV} (ha:A0 a (AZ ts)) (hl:Ac ts<2 ^ 30) (ih:∀t∈ts,yF R t) {u q b0:Nat} (hu:u+Ac ts+1<2 ^ 30) {l0:List Int} (hs0:l0.Pairwise (·<·)) {s0:AQ} {L:BI} (hro:L.ro=0) (hn0:L.n0=0) {Post:AV->AQ->Prop} {pre:List Int}
  (hP:∀l' s',iJ q l0 l' (pre++K2 u k0 0 ts) s0 s'->Post (.tuple []) s') (hlen:l0.length+pre.length+Ac ts<2 ^ 19) :
  ∀(j i:Nat) (l:List Int) (s:AQ) (don:List Int),i+j=ts.length->s.bs[b0]?=some [AG k0,SS n0',AG i0,a]->iJ q l0 l (pre++don) s0 s->don++K2 u k0 i (ts.drop i)=K2 u k0 0 ts->don.length+Ac (ts.drop i)<=Ac ts->AEs R L.n0 L.ro L.rt (AG u) (.ptr q 0) (.ptr b0 0) a (AG ts.length) (AG i) s Post:=by
 have Sj:=BS ts;intro j
 induction j with
 | zero=>
  intro i l s don hi hb hs hd _;refine AEt (Ao ?_);have h1:¬ ((i:Int)<ts.length):=AA;rw[A2 h1];refine Ar ?_;have h2:ts.drop i=[]:=CA AA;rw[h2] at hd;simp only[K2,Gy] at hd;rw[hd] at hs;exact hP l s hs
 | succ j D9=>
  intro i l s don hi hb hs hd hsz;refine AEt (Ao ?_);have h1:((i:Int)<ts.length):=AA;rw[Aq h1];refine A1 (AQi ?_);obtain⟨t,ht⟩:∃t,ts[i]?=some t:=⟨_,Ay AA⟩;rw[drop_cons ht] at hd hsz;simp only[K2,Ac] at hd hsz;refine BR ha (row:=Ah t) AA (by grind[BL]) (Aj t) AA (Ce ?_);have EN:=A8.Bk t;have Qh:=Q6 k0 i;have Xj:=F8 (A5 ht);have AQj:=ih t (A5 ht) _ EN (u+ER k0 i) AA;have hrl:((Ah t).map AV.pv).length=4:=by grind[Aj]
  have AQk:=Cx t;have KX:=NA t;have hst:=iJ.push hs.ns ((Ah t).map AV.pv);have hlb:=hs.len;simp only[Bo] at hlb;have hfl:=jv t (u+ER k0 i);generalize (Ah t).map AV.pv=row at AQj hrl AQk KX hst;obtain⟨bs,tk⟩:=s;refine Bm (Bn (Az bs Z4) hrl rfl AK (by simp[*]) AQk (.inl (by simp[*])) ?_);have e1:(bs++[Z4]).set bs.length row=bs++[row]:=AD;simp only at hst hb hs;rw[e1];have gb:=Ap hb row;refine Af (Az bs row) hrl (Af gb rfl ?_);have aH:Ae (env R) 119 [.agg [AG k0,SS n0',AG i0,a],AG i] λr=>r=AG (ER k0 i):=L3 ha i
  refine AH aH ?_;rintro _ rfl;refine Be AA AA ?_;have e2:((u:Int)+(ER k0 i:Nat))=((u+ER k0 i:Nat):Int):=AA;rw[e2];obtain⟨v,s1,⟨rfl,l1,h3⟩,hc⟩:=AQj q l ⟨bs++[row],tk⟩ (CT (env R) 87 L.n0 L.ro L.rt) (hs.srt hs0) hst.ns AA hro hn0;refine⟨_,_,hc,Af (Az bs row) hrl KX,?_⟩;refine AQl (Be AA AA ?_);have hall:=(hs.trans hst).trans h3;simp only[Gy,Db] at hall;have:=D9 (i+1) l1 s1 (don++Qj (u+ER k0 i) t) AA (h3.keep _ _ _ _ (yG _) gb) hall AB AB
  grind
mutual
theorem YP:∀(t:Ty),ixs t=true->yF R t
 | .mk k n i ts,Tp=>by
  intro x hx u hu q l s L hsd hns hl hro hn0;obtain⟨a,rfl,ha⟩:=hx;simp only[size] at hl hu;simp only[ixs,AI] at Tp;have ih:=VX ts Tp.2
  suffices H:∀Post:AV->AQ->Prop,(∀l' s',iJ q l l' (Qj u (.mk k n i ts)) s s'->Post (.tuple []) s')->AEu R L.n0 L.ro L.rt (.agg [AG k,SS n,AG i,a]) (AG u) (.ptr q 0) s Post from
   m87 (H _ λl' s' h=>⟨rfl,l',h⟩)
  intro Post hP;have hst:=iJ.push hns [AG k,SS n,AG i,a];have g0:=Az s.bs [AG k,SS n,AG i,a];refine AQm (Bu (cs:=[AG k,SS n,AG i,a]) rfl (by simp[ha.ok]) (AM (AU g0) (AX (off:=0) g0 rfl (Av ?_))))
  have tail:∀(pre l1:List Int) (s1:AQ),iJ q l l1 pre s s1->pre++K2 u k 0 ts=Qj u (.mk k n i ts)->pre.length<=1->s1.bs[s.bs.length]?=some [AG k,SS n,AG i,a]->AEv R L.n0 L.ro L.rt (AG u) (.ptr q 0) (.ptr s.bs.length 0) s1 Post:=by
   intro pre l1 s1 h1 h2 h3 h4;refine AQn (AM (AU h4) (AX (off:=3) h4 rfl (Au (n:=ts.length) (by rw[ha.BD,Ab]) ?_)));exact sF (R:=R) (q:=q) (l0:=l) (s0:=s) (L:=L) (pre:=pre) (Post:=Post) ha AA ih AA hsd hro hn0 (λl' s' h=>hP l' s' AB) AA ts.length 0 l1 s1 [] AA h4 AB AD AD
  cases hk:(k==5) with
  | true=>
   have e2:k=5:=AB;subst e2;have AaM:=Tp.1;simp at AaM;refine Ak (AM (AU g0) (Ak (AX (off:=2) g0 rfl (Ak (Ak (L9 (pk ?_)))))))
   by_cases hui:(u:Int)<=i
   .have:i>=(u:Int):=hui
    rw[Aq this];refine A1 (AM (AU g0) (AX (off:=2) g0 rfl (I7 AA AA ?_)));refine CH (yE (R:=R) (w:=i-u) (q:=q) (s:=⟨s.bs++[[AG 5,SS n,AG i,a]],s.ts⟩) (l:=l) (L:=CT (env R) 87 L.n0 L.ro L.rt) hsd hst.ns AA hro hn0) ?_;rintro v s1 ⟨rfl,l1,h1⟩;refine tail [i-u] l1 s1 ?_ ?_ AD (h1.keep _ _ _ _ (yG _) g0)
    .simpa using hst.trans h1
    grind[Qj]
   grind[Ar,Qj]
  | false=>
   grind[Bf,pk,Ar,Qj]
theorem VX:∀(l:List Ty),sD l=true->∀t∈l,yF R t
 | [],_,_,h=>by cases h
 | e::l,Tp,a,h=>by
  simp only[sD,AI] at Tp;rcases A3.1 h with h' | h'
  .rw[h']
   exact YP e Tp.1
  .exact VX l Tp.2 a h'
end
theorem yA.closed {bs:List (List AV)} {l:List Int} {x:AV} (h:yA bs l x):∃x',close bs 0 0 x=some x'/\A0 x' (Ad l):=by
 rcases h with ⟨rfl,rfl⟩|⟨id,rfl,hid,hne⟩
 .exact⟨.AE [],AR,by simp[Ad]; exact .AE _⟩
 .have hpv:∀l:List Int,CD (l.map λn=>AG n)=some (l.map λw=>PV.sc (.int .i64 w)):=by
   intro l
   induction l with
   | nil=>rfl
   | cons w l ih=>simp[*]
  have hrb:∀l:List Int,CJ 1 l.length (l.map λw=>PV.sc (.int .i64 w))=Ad l:=by
   intro l
   induction l with
   | nil=>rfl
   | cons w l ih=>grind[CJ,Ad]
  have yH:(l.map λn=>AG n).isEmpty=false:=by simp[*]
  refine⟨.pv (.list (Ad l)),?_,.list _⟩
  grind[close,IZ]
theorem OK {t:Ty} (h:size t<2 ^ 18) (Tp:ixs t=true) {x:AV} (hx:A8 t x):Ae (env R) 43 [x] λr=>∃l:List Int,A0 r (Ad l)/\l.Pairwise (·<·)/\(∀w,w∈l<->w∈Qj 0 t):=by
 have hc:=YP (R:=R) t Tp x hx 0 AA 1 [];have hle:=jv t 0;generalize hn:Qj 0 t=N at *;generalize size t=z at *;obtain⟨k,n,i,ts⟩:=t;obtain⟨a,rfl,ha⟩:=hx;refine e43 (u0:=.agg [AG k,SS n,AG i,a]) (by simp[ha.close]) (AQo ?_);refine Bu (cs:=[AG k,SS n,AG i,a]) rfl (by simp[ha.ok]) (Bm (Af (cs:=[AG k,SS n,AG i,a]) rfl rfl ?_));refine CH (hc ⟨[[AG k,SS n,AG i,a],[.AE []]],[]⟩ (CT (env R) 43 0 0 0) List.Pairwise.nil ⟨.AE [],rfl,.inl ⟨rfl,rfl⟩⟩ AB rfl rfl) ?_;rintro v s1 ⟨rfl,l',h1⟩;obtain⟨y,hy,hw⟩:=h1.ns;obtain⟨y',E6,hr⟩:=hw.closed;refine AM ?_ (AX (off:=0) hy rfl ?_)
 .simp[*]
 .exact⟨y',E6,l',hr,h1.srt List.Pairwise.nil,λw=>by rw[h1.mem]; simp⟩
end
end Go.Proofs.YtpgfpakdnijngaaGreatDoor
