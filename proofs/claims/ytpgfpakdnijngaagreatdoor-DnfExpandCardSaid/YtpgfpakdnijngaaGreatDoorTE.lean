/-
  expand: terms without members; what is known of a bound's expansions; a bound is appended.
-/
import Derived.Test.YtpgfpakdnijngaaGreatDoorTD
import Derived.Test.YtpgfpakdnijngaaGreatDoorTC
import Derived.Test.YtpgfpakdnijngaaGreatDoorTB
import Derived.Test.YtpgfpakdnijngaaGreatDoorW1
set_option linter.all false
namespace Go.Proofs.YtpgfpakdnijngaaGreatDoor
open Go.Tel
attribute [local simp] CI Bs LP LQ AO CU FJ wO setCells CJ D6 DV Cv A0 alive CY F9 I4 nx A6 DC BO Gs Dt DT si qd okB sj sk sq sr su jh sw sx sy s7 s8 s9 tA tB tC tD tE okF tF tG tH tI tJ Xs tK SR SU SV SW tL tM tN tP tQ tR tS tT tU tV Fw tW qe tX tY tZ td th tj tq uA uB uC Cm g0 g1 xI xL xM xF xG xC lf Y4 Y5
theorem AK7 {L:A8} {s:AM} {a:AV} {es:List Ty} {t z:Ty} {K:AV->AM->Prop} (ha:Dg 0 s.ts 25 a (AW es)) (EU:L.rt=0) (hl:es.length<2 ^ 38) (h:∀a' ts',Dg 0 ts' 25 a' (AW (es++[t]))->Ca a a' s.ts ts'->K a' ⟨s.bs,ts'⟩) :
  wFu L s 25 4 56 a (.AB [Af z]) (AA es.length) (.agg ((Af t).map .pv)) K:=by
 have hlen:=AR es;have hall:((AW es).all λr=>r.length==4)=true:=by grind[Gt]
 have ht:Cm ((Af t).map AV.pv)=some (Af t):=Kf _;refine⟨⟨Af z,rfl,Ac z,DK z⟩,?_,?_⟩
 .rcases ha with rfl|⟨u,rfl,_,_⟩ <;> grind[HA,rowsOf]
 .unfold AQY
  refine⟨DK t,?_⟩
  show wO (Cm ((Af t).map AV.pv)) _
  rw[ht];refine⟨Ac t,?_⟩;have er:AW es++[Af t]=AW (es++[t]):=by simp[FF,AW]
  rcases ha with rfl|⟨u,rfl,h1,h2⟩
  .refine⟨⟨by omega,by omega,hall⟩,?_⟩
   refine h (.own s.ts.length (AW es++[Af t])) _ (.inr ⟨_,by rw[er],?_,AI _⟩) ⟨by simp,λt ht _=>?_,.inr ⟨_,rfl,Aa _⟩⟩
   all_goals grind
  .refine⟨⟨by omega,by omega,h1,by omega,hall⟩,?_⟩
   have hlt:u<s.ts.length:=(BL.1 h1).1;refine h (.own u (AW es++[Af t])) _ (.inr ⟨u,by rw[er],?_,AI _⟩) ⟨by simp,λw hw hn=>?_,.inl rfl⟩
   .grind
   .rw[Fz]
    intro hh;exact hn (by rw[<-hh]; rfl)
theorem BF.Bg {a:AV} {es:List Ty} (h:BF a (AW es)):Tel.Bg a a=true:=by
 rcases h with (rfl|rfl)|⟨t,rfl⟩ <;> simp[Tel.Bg,DJ,Mm]
abbrev qM (M:Nat):Int->Bool:=λi=>decide (0<=i)&&decide (i<M)
theorem vo {Az M f v:Nat} {b:Ty} {B0:List Ty} (hv:valid b=true) (hc:Co 0 b=true) (hl:v<B0.length):ExB Az v M (wt b) B0 (qM M) (A3 (AQ Az) f b):=by
 refine⟨λB=>Fo f b B,λB r hB h hM=>?_⟩;have hBl:=hB.length_le
 have gG:∀q:Int->Bool,Eu q b=true:=λq=>by
  have:=ID (q:=q) (σ:=[]) (λx hx=>by grind) b 0 hv
  grind[EP]
 have AW9:inp b=true:=by
  have:=(I8 [] b 0 hv).2.2.2
  grind[EP]
 have hlen:=Kb (BA:=AQ Az) (by rfl) f b B r h;refine⟨by grind,λc Nr=>?_⟩;obtain⟨h1,h2⟩:=IA f b B M (qM M) r (λi h3 h4=>by grind) (gG _) h hM c Nr;obtain⟨h3,_⟩:=IA f b B M (λi=>qM M i&&!(i==(v:Int))) r (λi h3 h4=>by grind[Bool.not_eq_true']) (gG _) h hM c Nr;have h5:=λinv=>Og (q:=λi=>qM M i&&!(i==(v:Int))) (v:=v) (by simp) c inv h3
 exact⟨h1,λinv=>(h5 inv).1,(h5 true).2,h2,On f b B r AW9 h c Nr⟩
section
variable {R:RT}
theorem L9 {e:Nat} {k i:Int} {n:List UInt8} {a:AV} {rows:List (List PV)} (ha:BF a rows) {s:AM} {QR:QT} (b:Bool) (hb:(k==0||k==2)=b) (h:ku R 0 0 0 (.ptr e 0) (.ptr s.bs.length 0) (.AB []) (BB true) (AA k) (BB b) ⟨s.bs++[[AA k,SS n,AA i,a]],s.ts⟩ QR):bq R 0 0 0 (.ptr e 0) (.agg [AA k,SS n,AA i,a]) s QR:=by
 have g0:=Ay s.bs [AA k,SS n,AA i,a];refine AQZ (Bw (cs:=[AA k,SS n,AA i,a]) rfl (by simp[ha.ok]) (AK (AP g0) (AU (off:=0) g0 rfl (Au ?_))));cases h0:(k==0) with
 | true=>
  simp_all
 | false=>
  simp_all
theorem AC8 {e Az:Nat} {T:Ty} {k i:Int} {n:List UInt8} {ts:List Ty} (hT:ren T=.mk k n i ts) (hk:(k==0||k==2)=true) {a:AV} (ha:BF a (AW ts)) {s:AM} {d:AV} (gE:s.bs[e]?=some [d,AA Az]) {QR:QT} (h:∀w,Res w (bif AQ Az 1 then none else some [T])->QR w ⟨s.bs++[[AA k,SS n,AA i,a]],s.ts⟩):bq R 0 0 0 (.ptr e 0) (.agg [AA k,SS n,AA i,a]) s QR:=by
 have g0:=Ay s.bs [AA k,SS n,AA i,a];have hr:BJ (ren T) (.agg [AA k,SS n,AA i,a]):=by rw[hT]; exact⟨a,rfl,ha⟩
 refine L9 ha true hk (bt (A4 (Ad g0 rfl (FO hr ?_))));exact bZ (l:=[T]) (.inl (by grind[B4,AW,Aq.AB])) (Av gE _) h
theorem AC9 {e:Nat} {k i:Int} {n:List UInt8} {a:AV} {rows:List (List PV)} (ha:BF a rows) {s:AM} {QR:QT} (h0:k≠0) (h2:k≠2) (h3:k≠3) (h4:k≠4) (h6:k≠6) {d:AV} {Az:Nat} (gE:s.bs[e]?=some [d,AA Az]) (h:∀w,Res w (some [])->QR w ⟨s.bs++[[AA k,SS n,AA i,a]],s.ts⟩):bq R 0 0 0 (.ptr e 0) (.agg [AA k,SS n,AA i,a]) s QR:=by
 have e0:(k==0)=false:=by grind
 have e2:(k==2)=false:=by grind
 have e3:(k==3)=false:=by grind
 have e4:(k==4)=false:=by grind
 have e6:(k==6)=false:=by grind
 refine L9 ha false (by grind) (bt (Am (Au ?_)));rw[e4];refine Am (Au ?_);rw[e3];refine Am (Au ?_);rw[e6];refine Am ?_;exact bZ (l:=[]) (.inl (by grind[B4,AW,Aq.AB])) (Av gE _) (by grind)
end
def gH (Az:Nat) (ex:Ty->List Ty->Fm) (b body:Ty) (B:List Ty):Fm:=match ex (sub B.length 0 body) (B++[b]) with
 | (none,B1)=>(none,B1)
 | (some l,B1)=>match CZ (AQ Az) (Bv (AQ Az) (ex b) B.length) l [] B1 with
  | (none,B2)=>(none,B2)
  | (some out,B2)=>(bif AQ Az out.length then none else some out,B2)
section
variable {R:RT}
theorem oW (hn:Rj R) {e Az M f:Nat} (JX:Az<2 ^ 20) (hM:M<2 ^ 37) {b C4:Ty} {σ:List Nat} (Nu:valid b=true) (hcb:Co 0 b=true) (hv:valid C4=true) (hc:Co (1+σ.length) C4=true) (hsz:size C4<2 ^ 38)
  {B:List Ty} {S:Nat} (hW:S<2 ^ 37) (hlS:∀l,(A3 (AQ Az) f (inst (B.length::σ) 0 C4) (B++[b])).1=some l->∀t∈l,size t+BT (·==(B.length:Int)) t*wt b<=S) (hσ:∀x∈σ,x<B.length)
  (kG:∀(B:List Ty),(A3 (AQ Az) f b B).2.length<=M->∀x,BJ (ren b) x->∀s,BM s->Ur R e Az 44 [x] (A3 (AQ Az) f b B) B s)
  (ihy:(A3 (AQ Az) f (inst (B.length::σ) 0 C4) (B++[b])).2.length<=M->∀x,BJ (ren (inst (B.length::σ) 0 C4)) x->∀s,BM s->Ur R e Az 44 [x] (A3 (AQ Az) f (inst (B.length::σ) 0 C4) (B++[b])) (B++[b]) s)
  (oQ:(gH Az (A3 (AQ Az) f) b (inst σ 1 C4) B).2.length<=M) {n:List UInt8} {i:Int} {x:AV} (hx:BJ (ren (.mk 6 n i [b,inst σ 1 C4])) x) {s:AM} (hs:BM s):Ur R e Az 44 [x] (gH Az (A3 (AQ Az) f) b (inst σ 1 C4) B) B s:=by
 intro L d hro EU hE hd;have le:=(BL.1 hE).1;have same:s.bs.set e [d,AA Az]=s.bs:=by grind[List.set_getElem_self]
 have Q6:sub B.length 0 (inst σ 1 C4)=inst (B.length::σ) 0 C4:=JR B.length σ C4 0 hv (by omega);have AXC:ren (.mk 6 n i [b,inst σ 1 C4])=.mk 6 n i [b,ren (inst σ 1 C4)]:=by grind[HG,B4,Mc]
 have hxc:=hx;rw[AXC] at hx;obtain⟨a,rfl,ha⟩:=hx;obtain⟨_,_,hxi⟩:=hxc.cells;generalize Ta:gH Az (A3 (AQ Az) f) b (inst σ 1 C4) B=o at oQ ⊢;rw[gH,Q6] at Ta;have hpy:=Fo (BA:=AQ Az) f (inst (B.length::σ) 0 C4) (B++[b]);have hall:=IA (BA:=AQ Az) f (inst (B.length::σ) 0 C4) (B++[b]) M (qM M);have hpat:=On (BA:=AQ Az) f (inst (B.length::σ) 0 C4) (B++[b]);have NT:=Kb (BA:=AQ Az) (by rfl) f (inst (B.length::σ) 0 C4) (B++[b]);obtain⟨z1,z2,z3,z4⟩:=I8 (B.length::σ) C4 0 hv;rw[z3] at hall;have gG:Eu (λi=>qM M i&&decide (i<((B++[b]).length:Nat))) (inst (B.length::σ) 0 C4)=true->True:=λ_=>trivial
 rcases hg:A3 (AQ Az) f (inst (B.length::σ) 0 C4) (B++[b]) with ⟨r,B1⟩
 rw[hg] at Ta ihy hpy hall hpat NT hlS;simp only at Ta ihy hpy hall hpat NT hlS;have hcp:∀l,B1<+:(CZ (AQ Az) (Bv (AQ Az) (A3 (AQ Az) f b) B.length) l [] B1).2:=λl=>IB (λc B=>Ka (λB=>Fo f b B) _ c B) l [] B1
 have Ut:B1.length<=M:=by grind
 have hBl:B.length+1<=B1.length:=by grind
 refine m44 (by rfl) ?_;rw[hro,EU];have g0:=Ay s.bs [AA 6,SS n,AA i,a];have gE:=Av hE [AA 6,SS n,AA i,a];have hT:(s.bs++[[AA 6,SS n,AA i,a]]).take s.bs.length=s.bs.set e [d,AA Az]:=by grind
 have hok:BM ⟨s.bs++[[AA 6,SS n,AA i,a]],s.ts⟩:=BM.app (s:=s) hs (hxi _);refine L9 ha false rfl (bt (Am (Au (Am (Au (Am (Au (A4 ?_))))))));generalize s.bs++[[AA 6,SS n,AA i,a]]=bs at g0 gE hT hok;have hZ:BJ (.mk 0 [] 0 []) (.agg [(AA 0),(SS []),(AA 0),(.AB [])]):=⟨.AB [],rfl,.inl (.AB _)⟩;refine Cy (AP gE) (AK (AP gE) (AU (off:=0) gE rfl (Al (n:=B.length) (by rw[hd.Ax.A7,AR]) (Cy (AP gE) (AK (AP gE) (AU (off:=0) gE rfl (AK (AP g0) (AU (off:=3) g0 rfl ?_))))))));refine BQ ha (row:=Af b) (by omega) rfl (Ac _) (by omega) (Cg (Al (n:=B.length) (by rw[hd.Ax.A7,AR]) (FO hZ ⟨⟨rfl,rfl,rfl,by decide⟩,AK7 hd rfl (by omega) λd2 Jw w1 w2=>?_⟩)));refine Cy (AP gE) (AK (AP gE) (DD gE (by simp) w1.Ax.cells (AI _) w1.Ax.ok (.inl (AI _)) ?_));have AXD:[d,AA Az].set 0 d2=[d2,AA Az]:=rfl;rw[AXD];have hne:e≠s.bs.length:=by omega
 have gE2:(bs.set e [d2,AA Az])[e]?=some [d2,AA Az]:=Bf gE;have qi:(bs.set e [d2,AA Az])[s.bs.length]?=some [AA 6,SS n,AA i,a]:=BR g0 hne;have IZ:(bs.set e [d2,AA Az]).take s.bs.length=s.bs.set e [d2,AA Az]:=by grind[EE]
 have YZ:BM ⟨bs.set e [d2,AA Az],Jw⟩:=BM.set (s:=⟨bs,s.ts⟩) hok (by simp[Ab,Ar,w1.Ax.Ar]) _;generalize bs.set e [d2,AA Az]=b2 at gE2 qi IZ YZ;refine AK (AP qi) (AU (off:=3) qi rfl (BQ ha (row:=Af (ren (inst σ 1 C4))) (by omega) rfl (Ac _) (by omega) (Cg ?_)));refine AD (Pu hn B.length (by omega)) ?_;rintro _ rfl;have V2:HM (2 ^ 40) (inst σ 1 C4)=true:=by grind[Md,ID]
 have AXE:size (inst σ 1 C4)<2 ^ 38:=by grind[I8]
 refine AD (Q7 (v:=B.length) AXE V2 (TJ σ C4 1 hv) (A5.BZ _)) ?_;rintro y hy;rw[Q6] at hy;obtain⟨w,s',⟨d3,Me,q1,q2,q3,rfl⟩,q4⟩:=ihy Ut y hy.G1 ⟨b2,Jw⟩ YZ (Cv (env R) 44 0 0 0) d2 rfl rfl gE2 w1;have TX:(b2.set e [d3,AA Az]).take s.bs.length=s.bs.set e [d3,AA Az]:=by simp[*,EE]
 have Q9:(b2.set e [d3,AA Az])[e]?=some [d3,AA Az]:=Bf gE2;have hch:Ca d d3 s.ts Me:=w2.trans q3;have AK8:BM ⟨b2.set e [d3,AA Az],Me⟩:=BM.set (s:=⟨b2,Jw⟩) YZ (by simp[Ab,Ar,q2.Ax.Ar]) _;have LO:Tel.Bg a a=true:=BF.Bg (es:=[b,ren (inst σ 1 C4)]) ha;refine⟨_,_,q4,?_⟩
 have conds:∀{K:Prop} ,K->(A0 ⟨b2,Jw⟩ (.ptr s.bs.length 0) 3 λv=>Tel.Bg v (.ptr s.bs.length (0+3))=true)/\(D6 (env R) ⟨b2,Jw⟩ none (.ptr s.bs.length (0+3)) λv=>Tel.Bg v a=true)/\(Bh ⟨b2,Jw⟩ 4 a (AA 1) λv=>Tel.Bg v (.Cq (Af (ren (inst σ 1 C4))) 0)=true)/\(D6 (env R) ⟨b2,Jw⟩ (some 4) (.Cq (Af (ren (inst σ 1 C4))) 0) λv=>Tel.Bg v (.agg ((Af (ren (inst σ 1 C4))).map .pv))=true)/\K:=λhK=>
  ⟨AK (AP qi) (EO _ _),AU (off:=3) qi rfl LO,BQ ha (row:=Af (ren (inst σ 1 C4))) (by omega) rfl (Ac _) (by omega) (by simp[Tel.Bg,OW]),Cg (L6 _),hK⟩
 cases r with
 | none=>
  cases q1;simp only at Ta;subst Ta;exact CE rfl (CE rfl (conds (Am (Rp (Ev hs TX (q2.Ax.Ar _) (r:=none) rfl λw hw=>⟨d3,Me,hw,q2,hch,rfl⟩)))))
 | some l=>
  obtain⟨a3,rfl,ha3⟩:=q1;refine CE rfl (CE rfl (conds (A4 ?_)));simp only at Ta;have Rk:l.length<=Az:=by grind
  have dR:=hall l (λi h1 h2=>by grind) (ID (λx hx=>by
   simp only[AE,DU,Bo,CO,B8]
   grind) C4 0 hv) rfl Ut
  have PE:=hpat l z4 rfl;have hvB:(B++[b])[B.length]?=some b:=by simp
  have hxb:ExB Az B.length M (wt b) (B++[b]) (qM M) (A3 (AQ Az) f b):=vo Nu hcb (by simp);have hrb:ren b=b:=Mc b Nu;have oC:=kg (R:=R) hn (e:=e) (S:=S) (λi hi=>by grind) JX hW hxb hvB (λB s hs' _ fT=>kG B fT _ (by rw[hrb]; exact(A5.BZ b).G1) s hs');have D9:∀o,CZ (AQ Az) (Bv (AQ Az) (A3 (AQ Az) f b) B.length) l [] B1=o->o.2.length<=M:=by grind
  obtain⟨w4,s4,⟨d4,ts4,k1,k2,k3,rfl⟩,k4⟩:=ACy (R:=R) hn (e:=e) (M:=M) (W:=wt b) (S:=S) (B0:=B++[b]) (q:=qM M) (λi hi=>by grind) JX hW (λB=>Fo f b B) Rk ha3 (λt ht=>by
   obtain⟨y1,y2⟩:=dR t ht;exact⟨y1,PE t ht,hlS l rfl t ht⟩) oC hpy (D9 _ rfl) AK8 (Cv (env R) 44 0 0 0) d3 rfl rfl Q9 q2
  have hT4:((b2.set e [d3,AA Az]).set e [d4,AA Az]).take s.bs.length=s.bs.set e [d4,AA Az]:=by simp[*,EE]
  have gE4:((b2.set e [d3,AA Az]).set e [d4,AA Az])[e]?=some [d4,AA Az]:=Bf Q9;have AQb:=hch.trans k3;refine⟨_,_,k4,?_⟩;rcases hk:CZ (AQ Az) (Bv (AQ Az) (A3 (AQ Az) f b) B.length) l [] B1 with ⟨ro,B2⟩
  rw[hk] at k1 k2 Ta;cases ro with
  | none=>
   cases k1;simp only at Ta;subst Ta;exact CE rfl (CE rfl (Rp (Ev hs hT4 (k2.Ax.Ar _) (r:=none) rfl λw hw=>⟨d4,ts4,hw,k2,AQb,rfl⟩)))
  | some out=>
   obtain⟨a5,rfl,ha5⟩:=k1;simp only at Ta;subst Ta;exact CE rfl (CE rfl (bZ ha5 gE4 λw hw=>Ev hs hT4 (k2.Ax.Ar _) hw λw hw=>⟨d4,ts4,hw,k2,AQb,rfl⟩))
end
def ex2:List Nat->Nat
 | [_,c]=>c
 | _=>0
mutual
def lv:Ty->Nat
 | .mk k _ _ ts=>bif k==7||k==5 then 1 else bif k==3 then(lvl ts).sum else bif k==4 then(lvl ts).foldr max 0 else bif k==6 then ex2 (lvl ts) else 0
def lvl:List Ty->List Nat
 | []=>[]
 | t::l=>lv t::lvl l
end
theorem Ya:∀l:List Ty,lvl l=l.map lv
 | []=>rfl
 | t::l=>by rw[lvl,Ya l]; rfl
theorem max_mem:∀{l:List Nat} {n:Nat},n∈l->n<=l.foldr max 0
 | a::l,n,h=>by
  rw[List.foldr_cons];rcases A1.1 h with rfl|h
  .omega
  .have:=max_mem h
   omega
mutual
theorem Rq (σ:List Nat):∀(t:Ty) (u:Nat),valid t=true->lv (inst σ u t)=lv t
 | .mk k n i ts,u,hv=>by
  rcases Dq σ u hv with ⟨rfl,rfl,rfl,h0,h1,⟨v,h2,h3⟩|h3⟩|⟨b5,h3⟩
  .rw[h3]
   rfl
  .rw[h3]
  .simp only[valid,AE] at hv
   rw[h3,lv,lv,b9 σ ts u k 0 hv.2]
theorem b9 (σ:List Nat):∀(l:List Ty) (u:Nat) (k:Int) (j:Nat),BS l=true->lvl (Da σ u k j l)=lvl l
 | [],_,_,_,_=>rfl
 | t::l,u,k,j,hv=>by
  simp only[BS,AE] at hv;rw[Da,lvl,lvl,Rq σ t _ hv.1,b9 σ l u k (j+1) hv.2]
end
mutual
theorem cB {m q:Int->Bool} {b:Ty} (hb:BT q b=0):∀(t:Ty) (k:Nat),BT q (KA m b t k)<=BT q t
 | .mk c n i ts,k=>by
  have ih:=WD (m:=m) hb ts k
  grind[KA,BT]
theorem WD {m q:Int->Bool} {b:Ty} (hb:BT q b=0):∀(l:List Ty) (k:Nat),CX q (Jj m b l k)<=CX q l
 | [],_=>Aa _
 | t::l,k=>by
  rw[Jj];cases decide (k<BT m t) with
  | true=>
   have:=cB (m:=m) hb t k
   grind[CX]
  | false=>
   have:=WD (m:=m) hb l (k-BT m t)
   grind[CX]
end
section
variable {BA:Nat->Bool}
theorem WE {ex:List Ty->Fm} {q:Int->Bool} {v:Nat} (hx:∀B,B.length<=(ex B).2.length) {lo M:Nat} (hr:∀B r,lo<=B.length->(ex B).1=some r->(ex B).2.length<=M->∀c∈r,BT q c=0) :
  ∀(f:Nat) (t:Ty) (B r:List Ty),lo<=B.length->(CN BA ex v f t B).1=some r->(CN BA ex v f t B).2.length<=M->∀p∈r,BT q p<=BT q t
 | 0,t,B,r,_,h,_=>by grind[CN]
 | f+1,t,B,r,hlo,h,hM=>by
  have h1:=hx B;have h2:=hr B;rw[CN] at h hM;cases ho:DW v false t with
  | false=>grind
  | true=>
   rw[ho] at h hM;simp only[AN] at h hM;rcases he:ex B with ⟨_|cs,B1⟩
   .grind
   .rw[he] at h hM h1 h2
    simp only at h hM h1 h2;have h3:=H9 (BA:=BA) (g:=λc B=>CN BA ex v f (KA (·==(v:Int)) c t 0) B) (λc B=>Hf hx v f _ B) cs [] B1;have h4:=h2 cs hlo rfl (by omega);refine JT (λc B=>Hf hx v f _ B) (lo:=lo) cs [] B1 r ?_ (by omega) h hM (by simp);intro c hc B' r' ACN h' fT p hp;exact Bq (WE hx hr f _ B' r' ACN h' fT p hp) (cB (h4 c hc) t 0)
theorem cC:∀(f:Nat) (t:Ty) (σ:List Nat) (B:List Ty) (M v:Nat) (r:List Ty),valid t=true->Co σ.length t=true->v<B.length->(∀x∈σ,x<B.length) ->
  (A3 BA f (inst σ 0 t) B).1=some r->(A3 BA f (inst σ 0 t) B).2.length<=M->∀p∈r,BT (·==(v:Int)) p<=lv t
 | 0,_,_,_,_,_,_,_,_,_,_,h,_=>by cases h
 | f+1,.mk k n i ts,σ,B,M,v,r,hv,hc,hvB,hσ,h,hM=>by
  have ih:=cC f;have hf:=λt B=>JU (BA:=BA) f t B
  have PX:=hv;simp only[valid,AE] at hv
  have part:∀(hk:k≠6) (bS:k≠5),∀t∈ts.map (inst σ 0),∀(B' r:List Ty),B.length<=B'.length->(A3 BA f t B').1=some r->(A3 BA f t B').2.length<=M->∀p∈r,BT (·==(v:Int)) p<=lv t:=by
   intro hk bS t ht B' r hl h hM;obtain⟨t0,ZG,rfl⟩:=C0.1 ht;rw[Rq σ t0 0 (Ce hv.2 ZG)];exact ih t0 σ B' M v r (Ce hv.2 ZG) (He hk (D8 hc bS) ZG) (by omega) (λx hx=>Fx (hσ x hx) hl) h hM
  have emap:BS ts=true->(ts.map (inst σ 0)).map lv=ts.map lv:=by grind[List.map_congr_left,Rq,Ce]
  rcases Dq σ 0 PX with ⟨rfl,rfl,rfl,_,_,⟨x,h2,h3⟩|h3⟩|⟨b5,h3⟩
  .rw[h3,A3] at h
   have:(7:Int)==7:=rfl;simp only[show((7:Int)==7)=true from rfl,G6,AN] at h;cases hb:BA 1 with
   | true=>grind
   | false=>
    rw[hb] at h;cases h;intro p hp;rw[E7.1 hp,BT,lv];simp only[show((7:Int)==7)=true from rfl,AN,show((5:Int)==7||(5:Int)==5)=true from rfl];cases (x:Int)==(v:Int) <;> simp
  .rw[h3,A3] at h
   simp only[show((5:Int)==0||(5:Int)==2||(5:Int)==7)=false from rfl,show((5:Int)==4)=false from rfl,show((5:Int)==3)=false from rfl,show((5:Int)==6)=false from rfl,AG] at h;cases hb:BA 0 with
   | true=>grind
   | false=>grind
  .rw[h3,A3] at h hM
   cases h0:k==0||k==2||k==7 with
   | true=>
    grind[JQ,BT]
   | false=>
    rw[h0] at h hM;simp only[AG] at h hM;cases h4:k==4 with
    | true=>
     have hk:k=4:=by grind
     subst hk;rw[h4,Et (k:=4) (by decide)] at h hM;simp only[AN] at h hM
     have key:=L2 hf (P:=λp=>BT (·==(v:Int)) p<=lv (.mk 4 n i ts)) (lo:=B.length) (M:=M) (ts.map (inst σ 0)) [] true B (λt hm B' r hl h hM p hp=>Bq (part (by decide) (by decide) t hm B' r hl h hM p hp) (by
      have h5:lv t∈(ts.map (inst σ 0)).map lv:=Ef hm;rw[emap hv.2] at h5;simp[*,lv,Ya,max_mem])) (Aa _)
     grind
    | false=>
     rw[h4] at h hM;simp only[AG] at h hM;cases Lb:k==3 with
     | true=>
      have hk:k=3:=by grind
      subst hk;rw[Lb,Et (k:=3) (by decide)] at h hM;simp only[AN] at h hM;have key:=λr=>Oj hf (P:=λw p=>BT (·==(v:Int)) p<=w) (w:=lv) (lo:=B.length) (M:=M) (ts.map (inst σ 0)) [] [] B r (part (by decide) (by decide)) (Aa _)
      rcases hs:Er (A3 BA f) (ts.map (inst σ 0)) [] B with ⟨_|ls,B1⟩
      .grind
      .rw[hs] at h hM key
       simp only at h hM key;cases he:ls.any List.isEmpty with
       | true=>
        grind
       | false=>
        rw[he] at h hM;simp only[AG] at h hM;cases hcc:Dn BA ls [[]] with
        | none=>grind
        | some all=>
         rw[hcc] at h hM;simp only at h hM;cases hb:BA all.length with
         | true=>grind
         | false=>
          rw[hb] at h;cases h;intro p hp;obtain⟨a,ha,rfl⟩:=C0.1 hp;have h5:=Pt (q:=(·==(v:Int))) ls _ _ all 0 (key ls rfl hM Ae) hcc (by simp[CX]) a ha
          grind[BT,lv,Ya]
     | false=>
      rw[Lb] at h hM;simp only[AG] at h hM;cases fL:k==6 with
      | false=>
       grind
      | true=>
       have:k=6:=by grind
       subst this;rcases M4 hv.1 with h' | h' | h' | h' | h' | h' | ⟨_,rfl,rfl,b,body,rfl,hcb⟩
       iterate 6 exact absurd h' (by simp)
       simp only[BS,AE] at hv;obtain⟨_,Nu,Us,_⟩:=hv;have eb:inst σ (0+Ea 6 0) b=b:=Iv σ b 0 Nu hcb
       have hcy:Co (1+σ.length) body=true:=by
        have:=D8 hc (by decide);simp only[D7,AE] at this;have h2:=this.2.1;rw[MQ];exact h2
       have Q6:sub B.length 0 (inst σ 1 body)=inst (B.length::σ) 0 body:=JR B.length σ body 0 Us (by omega);have e1:inst σ (0+Ea 6 (0+1)) body=inst σ 1 body:=rfl;rw[fL] at h hM;simp only[AN,Da,eb,dU] at h hM;rw[e1,Q6] at h hM;have hfl:=JU (BA:=BA) f b
       have hbc:∀B' r,B.length<B'.length->(A3 BA f b B').1=some r->(A3 BA f b B').2.length<=M->∀c∈r,BT (·==(v:Int)) c=0:=by
        intro B' r hl h hM c Nr
        have gG:∀q:Int->Bool,Eu q b=true:=λq=>by
         have:=ID (q:=q) (σ:=[]) (λx hx=>by grind) b 0 Nu
         grind[EP]
        have h5:=IA f b B' M (λi=>!(i==(v:Int))) r (λi h3 h4=>by grind) (gG _) h hM c Nr;exact(Og (q:=λi=>!(i==(v:Int))) (v:=v) (by simp) c true h5.1).2
       have hy:=λl=>ih body (B.length::σ) (B++[b]) M v l Us (by grind) (by grind) (λx hx=>by
        rw[Bo,CO,B8]
        grind)
       have AFG:=JU (BA:=BA) f (inst (B.length::σ) 0 body) (B++[b]);generalize A3 BA f (inst (B.length::σ) 0 body) (B++[b])=o at h hM hy AFG;rcases o with ⟨_|l,B1⟩
       .cases h
       .simp only at h hM hy AFG
        have h6:=H9 (BA:=BA) (g:=Bv BA (A3 BA f b) B.length) (λa B'=>I6 hfl B.length a B') l [] B1;have key:=λr=>JT (BA:=BA) (g:=Bv BA (A3 BA f b) B.length) (λa B'=>I6 hfl B.length a B') (P:=λp=>BT (·==(v:Int)) p<=lv body) (lo:=B.length+1) (M:=M) l [] B1 r
        generalize CZ BA (Bv BA (A3 BA f b) B.length) l [] B1=o2 at h hM h6 key;rcases o2 with ⟨_|out,B2⟩
        .cases h
        .simp only at h hM h6 key
         cases hb:BA out.length with
         | true=>grind
         | false=>
          rw[hb] at h;cases h;have e2:lv (.mk 6 [] 0 [b,body])=lv body:=rfl;rw[e2];have Rk:=hy l rfl (by omega);refine key r ?_ (by grind) rfl hM (by simp);intro a ha B' r' hlo h5 h7 p hp;have ha1:=Rk a ha;rw[Bv] at h5 h7;cases ho:DW B.length true a with
          | true=>
           grind
          | false=>
           rw[ho] at h5 h7;exact Bq (WE hfl (lo:=B.length+1) (M:=M) (λB' r hl=>hbc B' r (by omega)) _ a B' r' hlo h5 h7 p hp) ha1
end
section
variable {BA:Nat->Bool}
theorem Tb {α:Type} {g:α->List Ty->Fm} (hg:∀a B,(g a B).2=B):∀(l:List α) (out B:List Ty),(CZ BA g l out B).2=B
 | [],_,_=>rfl
 | a::l,out,B=>by
  have h:=hg a B;rw[CZ];rcases hr:g a B with ⟨_|r,B1⟩
  .grind
  .rw[hr] at h
   simp only at h ⊢;subst h;cases BA (out++r).length with
   | true=>rfl
   | false=>exact Tb hg l _ _
theorem vp {ex:List Ty->Fm} {a v:Nat} (ha:∀B,(ex B).2.length<=B.length+a) (f:Nat) (hf:f<=1) (t:Ty) (B:List Ty):(CN BA ex v f t B).2.length<=B.length+a:=by
 rcases f with _|f
 all_goals grind[CN,Tb]
theorem cD {ex:List Ty->Fm} {a v:Nat} (ha:∀B,(ex B).2.length<=B.length+a) (hc:∀B r,(ex B).1=some r->r.length<=1):∀(f:Nat) (t:Ty) (B:List Ty),(CN BA ex v f t B).2.length<=B.length+a*f
 | 0,t,B=>by grind[CN]
 | f+1,t,B=>by
  have h:=ha B;have h2:=hc B;rw[RO,CN];cases DW v false t with
  | false=>simp
  | true=>
   simp only[AN];rcases hr:ex B with ⟨_|cs,B1⟩
   .grind
   .rw[hr] at h h2
    simp only at h h2 ⊢;have h3:=h2 cs rfl;rcases cs with _|⟨x,_|⟨y,cs⟩⟩
    .grind[CZ]
    .have ih:=cD (v:=v) ha hc f (KA (·==(v:Int)) x t 0) B1
     rw[CZ];rcases Ns:CN BA ex v f (KA (·==(v:Int)) x t 0) B1 with ⟨_|r,B2⟩
     .grind
     .rw[Ns] at ih
      simp only at ih ⊢;cases BA ([]++r).length with
      | true=>grind
      | false=>grind[CZ]
    grind
end
theorem WG {α:Type} {Az a q K:Nat} {B0:List Ty} {g:α->List Ty->Fm} (hpre:∀x B,B<+:(g x B).2):∀(l:List α) (out B:List Ty),(∀x∈l,∀B,B0<+:B->(∀r,(g x B).1=some r->r.length=K/\r.length<=Az+1/\(g x B).2.length+a<=B.length+a*K)/\((g x B).1=none->(g x B).2.length<=B.length+q))->B0<+:B->out.length<=Az ->
  (∀r,(CZ (AQ Az) g l out B).1=some r->r.length=out.length+l.length*K/\(CZ (AQ Az) g l out B).2.length+a*l.length<=B.length+a*(K*l.length)) /\
  ((CZ (AQ Az) g l out B).1=none->∃m,out.length+m*K<=Az/\((CZ (AQ Az) g l out B).2.length<=B.length+a*(m*K)+q\/(K<=Az+1/\(CZ (AQ Az) g l out B).2.length<=B.length+a*(m*K)+a*K)))
 | [],out,B,_,_,_=>by grind[CZ]
 | x::l,out,B,hg,hB,ho=>by
  have h1:=hg x (by simp) B hB;have hp:=hpre x B;rw[CZ];rcases hr:g x B with ⟨_|r,B1⟩
  .rw[hr] at h1
   refine⟨λr h=>(by cases h),λ_=>⟨0,by omega,.inl ?_⟩⟩
   grind
  .rw[hr] at h1 hp
   obtain⟨e1,e2,e3⟩:=h1.1 r rfl;simp only at e3 hp ⊢;cases hb:AQ Az (out++r).length with
   | true=>
    refine⟨λr h=>(by cases h),λ_=>⟨0,by omega,.inr ⟨by omega,?_⟩⟩⟩
    grind
   | false=>
    simp only[AG];have hb':out.length+r.length<=Az:=by grind
    obtain⟨i1,i2⟩:=WG hpre l (out++r) B1 (λy hy=>hg y (by grind)) (hB.trans hp) (by grind);refine⟨λs hs=>?_,λhs=>?_⟩
    .grind[Nat.mul_add]
    .obtain⟨m,j1,j2⟩:=i2 hs
     rw[Bo] at j1;refine⟨m+1,by grind,?_⟩
     grind
def qF (f:Nat):Nat:=f+min f 6*66
theorem WH {c f:Nat} (hc:2<=c) (h:c ^ f<=33):f<=5:=by
 rcases FR f 6 with h1|h1
 .omega
 .have h2:c ^ 6<=c ^ f:=Nat.pow_le_pow_right (by omega) h1
  have h3:2 ^ 6<=c ^ 6:=Nat.pow_le_pow_left hc 6;omega
structure ExC (v a c:Nat) (B0:List Ty) (ex:List Ty->Fm):Prop where
 pre:∀B,B<+:(ex B).2
 len:∀B,(ex B).2.length<=B.length+a
 res:∀B r,B0<+:B->(ex B).1=some r->r.length=c/\∀x∈r,BT (·==(v:Int)) x=0/\DW v true x=false/\pat x=true
theorem WI {ex:List Ty->Fm} {v a c:Nat} {B0:List Ty} (hx:ExC v a c B0 ex) (hc:2<=c):∀(f:Nat) (t:Ty) (B:List Ty),BT (·==(v:Int)) t=f->DW v true t=false->pat t=true->B0<+:B ->
  (∀r,(CN (AQ 32) ex v f t B).1=some r->r.length=c ^ f/\r.length<=32+1/\(CN (AQ 32) ex v f t B).2.length+a<=B.length+a*c ^ f)/\((CN (AQ 32) ex v f t B).1=none->(CN (AQ 32) ex v f t B).2.length<=B.length+a*qF f)
 | 0,t,B,_,_,_,_=>by grind[CN]
 | f+1,t,B,S0,hoc,hpt,hB=>by
  have NT:=λr=>P1 (Az:=32) (ex:=ex) (v:=v) (f+1) t B r
  have h1:=hx.len B;have h2:=hx.res B;have hp:=hx.pre B;have ho:DW v false t=true:=by grind[YD]
  rw[CN,ho] at NT ⊢;simp only[AN] at NT ⊢
  have hq:a*qF f+a<=a*qF (f+1):=by
   rw[<-RO];refine Eg _ ?_
   grind[qF]
  rcases hr:ex B with ⟨_|cs,B1⟩
  .grind
  .rw[hr] at h1 h2 hp NT
   simp only at h1 h2 hp NT ⊢;obtain⟨Be,hcs⟩:=h2 cs hB rfl
   obtain⟨i1,i2⟩:=WG (Az:=32) (a:=a) (q:=a*qF f) (K:=c ^ f) (B0:=B0) (g:=λx B=>CN (AQ 32) ex v f (KA (·==(v:Int)) x t 0) B) (λx B=>Hg hx.pre v f _ B) cs [] B1 (by
    intro x hxm B' hB';obtain⟨x1,x2,x3⟩:=hcs x hxm;obtain⟨r1,r2⟩:=Rg (m:=(·==(v:Int))) (b:=x) t 0 (by omega);exact WI hx hc f _ B' (by omega) (YE x2 t 0 hoc) (Ri x3 t 0 hpt) hB') (hB.trans hp) (by simp)
   refine⟨λr h=>?_,λh=>?_⟩
   .obtain⟨j1,j2⟩:=i1 r h
    refine⟨?_,NT r h,?_⟩
    .rw[j1,Be,RQ,B8,CQ,Nat.mul_comm]
    .have e1:a*(c ^ f*cs.length)=a*c ^ (f+1):=by rw[Be,RQ]
     have e2:a*2<=a*cs.length:=Eg _ (by omega);omega
   .obtain⟨m,j1,j2⟩:=i2 h
    rw[B8,CQ] at j1;have e1:a*(m*c ^ f)<=a*32:=Eg _ j1;rcases Nat.eq_zero_or_pos m with rfl|hm
    .rcases j2 with j2|⟨j2,j3⟩
     .omega
     .have hf5:=WH hc j2
      have e2:a*c ^ f<=a*33:=Eg _ j2;have e3:a*34<=a*qF (f+1):=Eg _ (by grind[qF]);omega
    .have hk:c ^ f<=33:=by
      have:1*c ^ f<=m*c ^ f:=B9 _ hm;omega
     have hf5:=WH hc hk;have e3:a*(33+qF f+33)<=a*qF (f+1):=Eg _ (by grind[qF]);rw[RR,RR] at e3;have e2:a*c ^ f<=a*33:=Eg _ hk;omega
def Tc:Ty->Bool
 | .mk k _ _ _=>!(k==3||k==4||k==6)
def nF (t:Ty):Nat:=bif Tc t then 1 else 33*lv t+500
def ex9:List Nat->List Nat->Nat
 | [b,c],[_,f]=>1+c+f*b
 | _,_=>0
mutual
def nb:Ty->Nat
 | .mk k _ _ ts=>bif k==6 then ex9 (nbl ts) (ts.map nF) else bif k==3||k==4 then(nbl ts).sum else 0
def nbl:List Ty->List Nat
 | []=>[]
 | t::l=>nb t::nbl l
end
theorem P5:∀l:List Ty,nbl l=l.map nb
 | []=>rfl
 | t::l=>by rw[nbl,P5 l]; rfl
theorem WJ {ex:List Ty->Fm} {v a c n:Nat} {B0:List Ty} (hx:ExC v a c B0 ex) (hc:2<=c):∀(l out B:List Ty),(∀t∈l,pat t=true/\BT (·==(v:Int)) t<=n)->B0<+:B->out.length<=32 ->
  (∀r,(CZ (AQ 32) (Bv (AQ 32) ex v) l out B).1=some r->(CZ (AQ 32) (Bv (AQ 32) ex v) l out B).2.length+a*out.length<=B.length+a*r.length/\r.length<=32) /\
  ((CZ (AQ 32) (Bv (AQ 32) ex v) l out B).1=none->(CZ (AQ 32) (Bv (AQ 32) ex v) l out B).2.length+a*out.length<=B.length+a*(n+461))
 | [],out,B,_,_,ho=>by grind[CZ]
 | t::l,out,B,hl,hB,ho=>by
  obtain⟨t1,t2⟩:=hl t (by simp);have hp:=Ka (BA:=AQ 32) hx.pre v t B;have h33:a*out.length<=a*32:=Eg _ ho
  have key:(∀r,(Bv (AQ 32) ex v t B).1=some r->r.length<=33/\(Bv (AQ 32) ex v t B).2.length<=B.length+a*r.length)/\((Bv (AQ 32) ex v t B).1=none->(Bv (AQ 32) ex v t B).2.length<=B.length+a*(n+396)):=by
   rw[Bv];cases hoc:DW v true t with
   | true=>
    simp
   | false=>
    simp only[AG];obtain⟨f1,f2⟩:=WI hx hc _ t B rfl hoc t1 hB;refine⟨λr h=>?_,λh=>?_⟩
    .grind
    .have:=f2 h
     have e:a*qF (BT (·==(v:Int)) t)<=a*(n+396):=Eg _ (by grind[qF]);omega
  rw[RR] at key ⊢;rw[CZ];rcases hr:Bv (AQ 32) ex v t B with ⟨_|r,B1⟩
  .grind
  .rw[hr] at key hp
   obtain⟨k1,k2⟩:=key.1 r rfl;simp only at k2 hp ⊢;have h34:a*r.length<=a*33:=Eg _ k1;cases hb:AQ 32 (out++r).length with
   | true=>
    grind
   | false=>
    simp only[AG];obtain⟨i1,i2⟩:=WJ hx hc l (out++r) B1 (λy hy=>hl y (by grind)) (hB.trans hp) (by grind);rw[Bo,RR] at i1 i2
    grind
theorem cE {ex:List Ty->Fm} {v a n:Nat} (ha:∀B,(ex B).2.length<=B.length+a) (hc:∀B r,(ex B).1=some r->r.length<=1):∀(l out B:List Ty),(∀t∈l,BT (·==(v:Int)) t<=n) ->
  (CZ (AQ 32) (Bv (AQ 32) ex v) l out B).2.length<=B.length+a*n*l.length
 | [],out,B,_=>by grind[CZ]
 | t::l,out,B,hl=>by
  have ht:=hl t (by simp)
  have key:(Bv (AQ 32) ex v t B).2.length<=B.length+a*n:=by
   rw[Bv];cases DW v true t with
   | true=>simp
   | false=>
    have:=cD (BA:=AQ 32) (v:=v) ha hc (BT (·==(v:Int)) t) t B;have e:a*BT (·==(v:Int)) t<=a*n:=Eg _ ht
    grind
  rw[CZ,CO,RO];rcases hr:Bv (AQ 32) ex v t B with ⟨_|r,B1⟩
  .grind
  .rw[hr] at key
   simp only at key ⊢;cases AQ 32 (out++r).length with
   | true=>grind
   | false=>
    have:=cE ha hc l (out++r) B1 (λy hy=>hl y (by grind))
    grind
theorem vq {ex:List Ty->Fm} {v a:Nat} (ha:∀B,(ex B).2.length<=B.length+a) {l:List Ty} (hl:l.length<=1) (hc:∀t∈l,BT (·==(v:Int)) t<=1) (B:List Ty):(CZ (AQ 32) (Bv (AQ 32) ex v) l [] B).2.length<=B.length+a:=by
 rcases l with _|⟨t,_|⟨u,l⟩⟩
 .grind[CZ]
 .have ht:=hc t (by simp)
  have key:(Bv (AQ 32) ex v t B).2.length<=B.length+a:=by
   rw[Bv];cases DW v true t with
   | true=>simp
   | false=>simp[*,vp]
  grind[CZ]
 grind
theorem oY {b:Ty} {f:Nat} (hv:valid b=true) (hc:Co 0 b=true) (hs:Cl (bw b)):(∀B,(A3 (AQ 32) f b B).1=none)\/∃c,∀B r,(A3 (AQ 32) f b B).1=some r->r.length=c:=by
 have h:=fQ (BA:=AQ 32) rfl rfl f b [] hv hc G7 hs
 have h2:∀B,LS (λB' b p=>∃φ,Rl false 0 B' B.length B'.length [] b p φ) B (DM (AQ 32) f b) (A3 (AQ 32) f b B):=by
  intro B;have:=h B (λx hx=>by grind)
  grind[EP]
 cases hb:DM (AQ 32) f b with
 | none=>
  left
  intro B;have:=h2 B;rw[hb] at this;rcases he:A3 (AQ 32) f b B with ⟨_|r,B1⟩
  .rfl
  .rw[he] at this
   exact this.elim
 | some l=>
  right
  refine⟨l.length,λB r hr=>?_⟩;have:=h2 B;rw[hb] at this;rcases he:A3 (AQ 32) f b B with ⟨_|r',B1⟩
  .grind
  .rw[he] at hr this
   cases hr;exact this.2.length.symm
theorem Yb {ex:Ty->List Ty->Fm} {n:Ty->Nat} {lo:Nat}:∀(l out:List Ty) (ok:Bool) (B:List Ty),(∀t∈l,∀B',lo<=B'.length->B'.length<=(ex t B').2.length/\(ex t B').2.length<=B'.length+n t)->lo<=B.length->(Gz ex l out ok B).2.length<=B.length+(l.map n).sum
 | [],_,_,B,_,_=>ML _ _
 | t::l,out,ok,B,h,hl=>by
  obtain⟨h0,h1⟩:=h t (by simp) B hl;rw[Gz,CH,MO];rcases hr:ex t B with ⟨_|r,B1⟩
  .rw[hr] at h1 h0
   simp only at h1 h0 ⊢;have:=Yb l out false B1 (λa ha=>h a (by grind)) (by omega);omega
  .rw[hr] at h1 h0
   simp only at h1 h0 ⊢;have:=Yb l (out++r) ok B1 (λa ha=>h a (by grind)) (by omega);omega
theorem kz {ex:Ty->List Ty->Fm} {n:Ty->Nat} {lo:Nat}:∀(l:List Ty) (out:List (List Ty)) (B:List Ty),(∀t∈l,∀B',lo<=B'.length->B'.length<=(ex t B').2.length/\(ex t B').2.length<=B'.length+n t)->lo<=B.length->(Er ex l out B).2.length<=B.length+(l.map n).sum
 | [],_,B,_,_=>ML _ _
 | t::l,out,B,h,hl=>by
  obtain⟨h0,h1⟩:=h t (by simp) B hl;rw[Er,CH,MO];rcases hr:ex t B with ⟨_|r,B1⟩
  .grind
  .rw[hr] at h1 h0
   simp only at h1 h0 ⊢;have:=kz l (out++[r]) B1 (λa ha=>h a (by grind)) (by omega);omega
theorem DN {a b:Nat} (h:Cl b) (hl:a<=b):Cl a:=by grind[Cl]
theorem ADC (σ:List Nat) (t:Ty) (u:Nat) (hv:valid t=true):nF (inst σ u t)=nF t:=by
 have h:=Rq σ t u hv
 have:Tc (inst σ u t)=Tc t:=by
  obtain⟨k,n,i,ts⟩:=t;rcases Dq σ u hv with ⟨rfl,rfl,rfl,h0,h1,⟨v,h2,h3⟩|h3⟩|⟨b5,h3⟩ <;> rw[h3] <;> rfl
 grind[nF]
mutual
theorem Yc (σ:List Nat):∀(t:Ty) (u:Nat),valid t=true->nb (inst σ u t)=nb t
 | .mk k n i ts,u,hv=>by
  rcases Dq σ u hv with ⟨rfl,rfl,rfl,h0,h1,⟨v,h2,h3⟩|h3⟩|⟨b5,h3⟩
  .rw[h3]
   rfl
  .rw[h3]
  .simp only[valid,AE] at hv
   obtain⟨e1,e2⟩:=cG σ ts u k 0 hv.2
   grind[nb]
theorem cG (σ:List Nat):∀(l:List Ty) (u:Nat) (k:Int) (j:Nat),BS l=true->nbl (Da σ u k j l)=nbl l/\(Da σ u k j l).map nF=l.map nF
 | [],_,_,_,_=>⟨rfl,rfl⟩
 | t::l,u,k,j,hv=>by
  simp only[BS,AE] at hv;obtain⟨e1,e2⟩:=cG σ l u k (j+1) hv.2;rw[Da,nbl,nbl,Yc σ t _ hv.1,e1,CH,CH,ADC σ t _ hv.1,e2];simp
end
theorem ADE {f:Nat} {b:Ty} {v:Nat} {B0:List Ty} (hv:valid b=true) (hc:Co 0 b=true) (hs:Cl (bw b)) (hvB:v<B0.length) (ha:∀B,(A3 (AQ 32) f b B).2.length<=B.length+nb b) {l:List Ty} (hl:l.length<=32) {n:Nat} (hn:∀t∈l,pat t=true/\BT (·==(v:Int)) t<=n) {B:List Ty} (hB:B0<+:B) :
  (CZ (AQ 32) (Bv (AQ 32) (A3 (AQ 32) f b) v) l [] B).2.length<=B.length+(33*n+500)*nb b:=by
 have few:(∀B r,(A3 (AQ 32) f b B).1=some r->r.length<=1)->(CZ (AQ 32) (Bv (AQ 32) (A3 (AQ 32) f b) v) l [] B).2.length<=B.length+(33*n+500)*nb b:=by
  intro h;have h1:=cE (v:=v) (n:=n) ha h l [] B (λt ht=>(hn t ht).2);have h2:nb b*n*l.length<=nb b*n*32:=Eg _ hl
  grind
 rcases oY (f:=f) hv hc hs with h|⟨c,h⟩
 .grind
 .rcases FR c 2 with h1|h1
  .grind
  .have hx:ExC v (nb b) c B0 (A3 (AQ 32) f b):=by
    refine⟨λB=>Fo f b B,ha,λB r hB hr=>⟨h B r hr,λx hx=>?_⟩⟩;obtain⟨_,h2⟩:=(vo (Az:=32) (M:=(A3 (AQ 32) f b B).2.length) (f:=f) hv hc hvB).res B r hB hr (Aa _)
    grind
   obtain⟨i1,i2⟩:=WJ hx h1 (n:=n) l [] B hn hB (by simp);simp only[B8,Nat.mul_zero,GY] at i1 i2;rw[Nat.mul_comm (33*n+500)];cases ho:(CZ (AQ 32) (Bv (AQ 32) (A3 (AQ 32) f b) v) l [] B).1 with
   | none=>
    grind
   | some r=>
    obtain⟨j1,j2⟩:=i1 r ho
    grind[Nat.mul_le_mul_left,Nat.le_trans]
theorem ADF:∀(f:Nat) (t:Ty) (σ:List Nat) (B:List Ty),valid t=true->Co σ.length t=true->Cl (bw t)->(∀x∈σ,x<B.length)->(A3 (AQ 32) f (inst σ 0 t) B).2.length<=B.length+nb t:=by
 intro f
 induction f with
 | zero=>
  grind[A3]
 | succ f ih=>
  intro t σ B hv hc hs hσ;obtain⟨k,n,i,ts⟩:=t;have hf:=λt B=>JU (BA:=AQ 32) f t B
  have PX:=hv;simp only[valid,AE] at hv
  have part:∀(hk:k≠6) (bS:k≠5),(∀t∈ts,Cl (bw t))->∀t∈ts.map (inst σ 0),∀B':List Ty,B.length<=B'.length->B'.length<=(A3 (AQ 32) f t B').2.length/\(A3 (AQ 32) f t B').2.length<=B'.length+nb t:=by
   intro hk bS ZF t ht B' hl;obtain⟨t0,ZG,rfl⟩:=C0.1 ht;rw[Yc σ t0 0 (Ce hv.2 ZG)];exact⟨hf _ B',ih t0 σ B' (Ce hv.2 ZG) (He hk (D8 hc bS) ZG) (ZF t0 ZG) (λx hx=>Fx (hσ x hx) hl)⟩
  have emap:(ts.map (inst σ 0)).map nb=ts.map nb:=by grind[List.map_congr_left,Yc,Ce]
  rcases Dq σ 0 PX with ⟨rfl,rfl,rfl,_,_,⟨x,h2,h3⟩|h3⟩|⟨b5,h3⟩
  .grind[A3]
  .grind[A3]
  .rw[h3,A3]
   cases h0:k==0||k==2||k==7 with
   | true=>simp
   | false=>
    simp only[AG];cases h4:k==4 with
    | true=>
     have hk:k=4:=by grind
     subst hk;have ZF:∀t∈ts,Cl (bw t):=λt ht=>DN hs (by simp[*,bw,GN,Dx,Ef])
     have:=Yb (ex:=A3 (AQ 32) f) (n:=nb) (lo:=B.length) (ts.map (inst σ 0)) [] true B (part (by decide) (by decide) ZF) (Aa _)
     grind[Et,nb,P5]
    | false=>
     simp only[AG];cases Lb:k==3 with
     | true=>
      have hk:k=3:=by grind
      subst hk;have ZF:∀t∈ts,Cl (bw t):=λt ht=>DN hs (by simp[*,bw,GN,Dx,Ef])
      have:=kz (ex:=A3 (AQ 32) f) (n:=nb) (lo:=B.length) (ts.map (inst σ 0)) [] B (part (by decide) (by decide) ZF) (Aa _);rw[emap] at this;rw[Et (k:=3) (by decide),nb,P5];simp only[AN];generalize Er (A3 (AQ 32) f) (ts.map (inst σ 0)) [] B=o at this ⊢;rcases o with ⟨_|ls,B1⟩
      .grind
      .simp only
       cases ls.any List.isEmpty with
       | true=>grind
       | false=>
        grind
     | false=>
      simp only[AG];cases fL:k==6 with
      | false=>simp
      | true=>
       have:k=6:=by grind
       subst this;rcases M4 hv.1 with h' | h' | h' | h' | h' | h' | ⟨_,rfl,rfl,b,body,rfl,hcb⟩
       iterate 6 exact absurd h' (by simp)
       simp only[BS,AE] at hv;obtain⟨_,Nu,Us,_⟩:=hv;have eb:inst σ (0+Ea 6 0) b=b:=Iv σ b 0 Nu hcb
       have hcy:Co (1+σ.length) body=true:=by
        have:=D8 hc (by decide);simp only[D7,AE] at this;have h2:=this.2.1;rw[MQ];exact h2
       have Q6:sub B.length 0 (inst σ 1 body)=inst (B.length::σ) 0 body:=JR B.length σ body 0 Us (by omega);have e1:inst σ (0+Ea 6 (0+1)) body=inst σ 1 body:=rfl;simp only[AN,Da,eb,dU];rw[e1,Q6];have hbw:bw (.mk 6 [] 0 [b,body])=bw body+1+(cv body+1)*bw b:=rfl;have oC:Cl (bw b):=DN hs (by grind);have hsy:Cl (bw body):=DN hs (by omega)
       have hab:∀B',(A3 (AQ 32) f b B').2.length<=B'.length+nb b:=λB'=>by
        have:=ih b [] B' Nu hcb oC (λx hx=>by grind)
        grind[EP]
       have hσ':∀x∈B.length::σ,x<(B++[b]).length:=λx hx=>by grind
       have AQc:Co (B.length::σ).length body=true:=by grind
       have hay:=ih body (B.length::σ) (B++[b]) Us AQc hsy hσ';rw[Bo,CO,B8] at hay;have enb:nb (.mk 6 [] 0 [b,body])=1+nb body+nF body*nb b:=rfl;rw[enb];have hpy:=Fo (BA:=AQ 32) f (inst (B.length::σ) 0 body) (B++[b]);have hcn:=λM l=>cC (BA:=AQ 32) f body (B.length::σ) (B++[b]) M B.length l Us AQc (by simp) hσ'
       have hpt:=λl=>On (BA:=AQ 32) f (inst (B.length::σ) 0 body) (B++[b]) l (I8 (B.length::σ) body 0 Us).2.2.2
       have hbg:=λl=>Kb (BA:=AQ 32) (by rfl) f (inst (B.length::σ) 0 body) (B++[b]) l
       have hlf:Tc body=true->∀l,(A3 (AQ 32) f (inst (B.length::σ) 0 body) (B++[b])).1=some l->l.length<=1/\lv body<=1:=by
        intro hl l hr;obtain⟨k',n',i',ts'⟩:=body;simp only[Tc,Ko,Gc] at hl;obtain⟨⟨l3,l4⟩,l6⟩:=hl;refine⟨?_,?_⟩
        .cases f with
         | zero=>cases hr
         | succ f=>
          obtain⟨k2,n2,i2,Jw,e2,m3,m4,m6⟩:∃k2 n2 i2 Jw,inst (B.length::σ) 0 (.mk k' n' i' ts')=.mk k2 n2 i2 Jw/\(k2==3)=false/\(k2==4)=false/\(k2==6)=false:=by
           rcases Dq (B.length::σ) 0 Us with ⟨rfl,rfl,rfl,_,_,⟨x,_,h3⟩|h3⟩|⟨_,h3⟩
           all_goals grind
          rw[e2,A3,m3,m4,m6] at hr;simp only[AG] at hr;cases hq:k2==0||k2==2||k2==7 with
          | true=>
           grind
          | false=>
           grind
        grind[lv]
       generalize A3 (AQ 32) f (inst (B.length::σ) 0 body) (B++[b])=o at hay hpy hcn hpt hbg hlf ⊢;rcases o with ⟨_|l,B1⟩
       .grind
       .simp only at hay hpy hcn hpt hbg hlf ⊢
        have oZ:l.length<=32:=by grind
        have nY:(CZ (AQ 32) (Bv (AQ 32) (A3 (AQ 32) f b) B.length) l [] B1).2.length<=B1.length+nF body*nb b:=by
         cases hlb:Tc body with
         | true=>
          obtain⟨q1,q2⟩:=hlf hlb l rfl;rw[nF,hlb];have:=vq (v:=B.length) hab q1 (λt ht=>Bq (hcn B1.length l rfl (Aa _) t ht) q2) B1
          grind
         | false=>
          rw[nF,hlb];exact ADE Nu hcb oC (B0:=B++[b]) (by simp) hab oZ (λt ht=>⟨hpt l rfl t ht,hcn B1.length l rfl (Aa _) t ht⟩) hpy
        generalize CZ (AQ 32) (Bv (AQ 32) (A3 (AQ 32) f b) B.length) l [] B1=o2 at nY ⊢;rcases o2 with ⟨_|out,B2⟩
        all_goals grind
theorem Kh:∀{l:List Ty} {a:Ty},a∈l->depth a<=Ep l
 | b::l,a,h=>by
  simp only[Ep];rcases A1.1 h with rfl|h
  .omega
  .have:=Kh h
   omega
theorem ADG {Az f:Nat} {C4:Ty} (hv:valid C4=true) {σ:List Nat} (hc:Co (1+σ.length) C4=true) (b:Ty) (B:List Ty):(A3 (AQ Az) f (inst (B.length::σ) 0 C4) (B++[b])).2.length<=(gH Az (A3 (AQ Az) f) b (inst σ 1 C4) B).2.length:=by
 have Q6:sub B.length 0 (inst σ 1 C4)=inst (B.length::σ) 0 C4:=JR B.length σ C4 0 hv (by omega);rw[gH,Q6];rcases A3 (AQ Az) f (inst (B.length::σ) 0 C4) (B++[b]) with ⟨_|l,B1⟩
 .exact Aa _
 .have:=(IB (BA:=AQ Az) (g:=Bv (AQ Az) (A3 (AQ Az) f b) B.length) (λc B=>Ka (λB=>Fo f b B) _ c B) l [] B1).length_le
  simp only;rcases hk:CZ (AQ Az) (Bv (AQ Az) (A3 (AQ Az) f b) B.length) l [] B1 with ⟨_|o,B2⟩
  .grind
  .grind
section
variable {R:RT}
theorem vt {e Az M f:Nat} (JX:Az<2 ^ 20) {n:List UInt8} {i:Int} {ts:List Ty} (hl:ts.length<2 ^ 36) {B:List Ty}
  (ih:∀t∈ts,∀B',B<+:B'->(A3 (AQ Az) f t B').2.length<=M->∀x,BJ (ren t) x->∀s,BM s->Ur R e Az 44 [x] (A3 (AQ Az) f t B') B' s)
  (hM:(LX Az (A3 (AQ Az) f) ts B).2.length<=M) {x:AV} (hx:BJ (ren (.mk 3 n i ts)) x) {s:AM} (hs:BM s):Ur R e Az 44 [x] ((match (LX Az (A3 (AQ Az) f) ts B).1 with
   | none=>none
   | some l=>bif AQ Az l.length then none else some l),(LX Az (A3 (AQ Az) f) ts B).2) B s:=by
 intro L d hro EU hE hd;have le:=(BL.1 hE).1;have same:s.bs.set e [d,AA Az]=s.bs:=by grind[List.set_getElem_self]
 have hxc:=hx;rw[HG _ _ _ _ (by decide)] at hx;obtain⟨a,rfl,ha⟩:=hx;obtain⟨_,_,hxi⟩:=hxc.cells;refine m44 (by rfl) ?_;rw[hro,EU];have g0:=Ay s.bs [AA 3,SS n,AA i,a];have gE:=Av hE [AA 3,SS n,AA i,a];have hT:(s.bs++[[AA 3,SS n,AA i,a]]).take s.bs.length=s.bs.set e [d,AA Az]:=by grind
 have hok:BM ⟨s.bs++[[AA 3,SS n,AA i,a]],s.ts⟩:=BM.app (s:=s) hs (hxi _);refine L9 ha false rfl (bt (Am (Au (Am (Au (A4 ?_))))));generalize s.bs++[[AA 3,SS n,AA i,a]]=bs at g0 gE hT hok;obtain⟨w,s',⟨d3,Me,q1,q2,q3,rfl⟩,q4⟩:=AC5 (R:=R) (e:=e) JX (λt B=>Fo f t B) (λt _ B r h=>by grind[Kb]) ha hl ih (C8 B) hM hok (Cv (env R) 44 0 0 0) d rfl rfl gE hd;have TX:(bs.set e [d3,AA Az]).take s.bs.length=s.bs.set e [d3,AA Az]:=by grind[EE]
 have Q9:(bs.set e [d3,AA Az])[e]?=some [d3,AA Az]:=Bf gE;refine AK (AP g0) (AU (off:=3) g0 rfl ⟨_,_,q4,?_⟩);generalize LX Az (A3 (AQ Az) f) ts B=o at q1 q2;obtain⟨r,B2⟩:=o;cases r with
 | none=>
  cases q1;exact CE rfl (CE rfl (Rp (Ev hs TX (q2.Ax.Ar _) (r:=none) rfl λw hw=>⟨d3,Me,hw,q2,q3,rfl⟩)))
 | some out=>
  obtain⟨a5,rfl,ha5⟩:=q1;exact CE rfl (CE rfl (bZ ha5 Q9 λw hw=>Ev hs TX (q2.Ax.Ar _) hw λw hw=>⟨d3,Me,hw,q2,q3,rfl⟩))
theorem vu {e Az M f:Nat} {n:List UInt8} {i:Int} {ts:List Ty} (hl:ts.length*Az<2 ^ 38) (PE:ts.length<2 ^ 38) {B:List Ty}
  (ih:∀t∈ts,∀B',B<+:B'->(A3 (AQ Az) f t B').2.length<=M->∀x,BJ (ren t) x->∀s,BM s->Ur R e Az 44 [x] (A3 (AQ Az) f t B') B' s)
  {out:List Ty} {ok:Bool} {B1:List Ty} (ho:Gz (A3 (AQ Az) f) ts [] true B=((out,ok),B1)) (hM:B1.length<=M) {x:AV} (hx:BJ (ren (.mk 4 n i ts)) x) {s:AM} (hs:BM s):Ur R e Az 44 [x] ((bif ok&&!AQ Az out.length then some out else none),B1) B s:=by
 intro L d hro EU hE hd;have le:=(BL.1 hE).1;have same:s.bs.set e [d,AA Az]=s.bs:=by grind[List.set_getElem_self]
 have hxc:=hx;rw[HG _ _ _ _ (by decide)] at hx;obtain⟨a,rfl,ha⟩:=hx;obtain⟨_,_,hxi⟩:=hxc.cells;refine m44 (by rfl) ?_;rw[hro,EU];have g0:=Ay s.bs [AA 4,SS n,AA i,a];have gE:=Av hE [AA 4,SS n,AA i,a];have hT:(s.bs++[[AA 4,SS n,AA i,a]]).take s.bs.length=s.bs.set e [d,AA Az]:=by grind
 have hok:BM ⟨s.bs++[[AA 4,SS n,AA i,a]],s.ts⟩:=BM.app (s:=s) hs (hxi _);refine L9 ha false rfl (bt (Am (Au (A4 ?_))));have ND:s.bs.length<=(s.bs++[[AA 4,SS n,AA i,a]]).length:=by simp
 generalize s.bs++[[AA 4,SS n,AA i,a]]=bs at g0 gE hT hok ND;refine AK (AP g0) (AU (off:=3) g0 rfl (Al (n:=ts.length) (by rw[ha.A7,AR,Bk,Bx]) ?_));refine AC6 (R:=R) (M:=M) (λt B=>Fo f t B) (λt _ B r h=>by grind[Kb]) ha hl PE ih le (o:=((out,ok),B1)) hM ?_ ts.length 0 [] true B bs s.ts d (.AB []) (by omega) (by grind) (C8 B) (by simp) hok hT ND hd (.inl rfl) (Ca.refl _ _) (DL.AB _ _) (Q8.AB _ _);intro b2 tk d2 acc hs2 IZ SE hch hacc;have gE2:b2[e]?=some [d2,AA Az]:=B5 IZ (by rw[CS le]);cases ok with
 | false=>exact Rp (Ev hs IZ (SE.Ax.Ar _) (r:=none) rfl λw hw=>⟨d2,tk,hw,SE,hch,rfl⟩)
 | true=>
  refine bZ hacc gE2 λw hw=>Ev hs IZ (SE.Ax.Ar _) hw λw hw=>⟨d2,tk,?_,SE,hch,rfl⟩
  grind
theorem cH (hn:Rj R) {e Az M:Nat} (dR:1<=Az) (JX:Az<2 ^ 20) (hM:M<2 ^ 37):∀(f:Nat) (t:Ty) (σ:List Nat),depth t<=f->valid t=true->Co σ.length t=true->wt t<2 ^ 37->size t<2 ^ 18->∀(B:List Ty),(∀x∈σ,x<B.length) ->
  (A3 (AQ Az) f (inst σ 0 t) B).2.length<=M->∀x,BJ (ren (inst σ 0 t)) x->∀s,BM s->Ur R e Az 44 [x] (A3 (AQ Az) f (inst σ 0 t) B) B s:=by
 intro f
 induction f with
 | zero=>
  intro t σ hd;obtain⟨k,n,i,ts⟩:=t
  grind[depth]
 | succ f ih=>
  intro t σ hdp hv hc hw hsz B hσ oQ x hx s hs;obtain⟨k,n,i,ts⟩:=t;have PX:=hv;simp only[valid,AE] at hv;have hb0:AQ Az 0=false:=by rfl
  have Qz:AQ Az 1=false:=by grind
  have hinv:=Dq σ 0 PX;simp only[depth] at hdp;simp only[size] at hsz
  have leaf:∀(T:Ty) (k' i':Int) (n':List UInt8) (ts':List Ty),ren T=.mk k' n' i' ts'->(k'==0||k'==2)=true->∀x,BJ (ren T) x->Ur R e Az 44 [x] (some [T],B) B s:=by
   intro T k' i' n' ts' hT hk x hx L d hro EU hE hd;have same:s.bs.set e [d,AA Az]=s.bs:=by grind[List.set_getElem_self]
   rw[hT] at hx;obtain⟨a,rfl,ha⟩:=hx;refine m44 (by rfl) ?_;rw[hro,EU];refine AC8 hT hk ha hE λw hw=>?_
   rw[Qz] at hw;exact Ev hs (by grind) (hd.Ax.Ar _) hw λw hw=>⟨d,s.ts,hw,hd,Ca.refl _ _,rfl⟩
  have rest:∀(k' i':Int) (n':List UInt8) (ts':List Ty),k'≠0->k'≠2->k'≠3->k'≠4->k'≠6->∀x,BJ (.mk k' n' i' ts') x->Ur R e Az 44 [x] (some [],B) B s:=by
   intro k' i' n' ts' h0 h2 h3 h4 h6 x hx L d hro EU hE hd;have same:s.bs.set e [d,AA Az]=s.bs:=by grind[List.set_getElem_self]
   obtain⟨a,rfl,ha⟩:=hx;refine m44 (by rfl) ?_;rw[hro,EU];refine AC9 ha h0 h2 h3 h4 h6 hE λw hw=>?_
   exact Ev hs (by grind) (hd.Ax.Ar _) hw λw hw=>⟨d,s.ts,hw,hd,Ca.refl _ _,rfl⟩
  have mem:∀(hk:k≠6) (bS:k≠5),(∀t∈ts,wt t<2 ^ 37)->∀t∈ts.map (inst σ 0),∀B',B<+:B'->(A3 (AQ Az) f t B').2.length<=M->∀x,BJ (ren t) x->∀s,BM s->Ur R e Az 44 [x] (A3 (AQ Az) f t B') B' s:=by
   intro hk bS hwt t ht B' hB' fT x hx s hs;obtain⟨t0,ZG,rfl⟩:=C0.1 ht;have:=Kh ZG;have:=Fj ZG;exact ih t0 σ (by omega) (Ce hv.2 ZG) (He hk (D8 hc bS) ZG) (hwt t0 ZG) (by omega) B' (λy hy=>Fx (hσ y hy) hB'.length_le) fT x hx s hs
  have hts:=BP ts;have ALB:∀{l:List Nat} {a:Nat},a∈l->a<=l.sum:=λh=>Dx h
  rcases M4 hv.1 with ⟨rfl,rfl,rfl,rfl⟩|⟨rfl,rfl,rfl,rfl⟩|rfl|⟨rfl,rfl,rfl⟩|⟨rfl,rfl,rfl,hne⟩|⟨rfl,rfl,rfl,h0⟩|⟨rfl,rfl,rfl,b,body,rfl,hcb⟩
  .have eo:A3 (AQ Az) (f+1) (inst σ 0 (.mk 0 [] 0 [])) B=(some [inst σ 0 (.mk 0 [] 0 [])],B):=by grind[A3]
   rw[eo];exact leaf _ 0 0 [] [] rfl rfl x hx
  .have eo:A3 (AQ Az) (f+1) (inst σ 0 (.mk 1 [] 0 [])) B=(some [],B):=by rfl
   rw[eo];exact rest 1 0 [] [] (by decide) (by decide) (by decide) (by decide) (by decide) x hx
  .grind[A3,HG]
  .have e1:inst σ 0 (.mk 3 [] 0 ts)=.mk 3 [] 0 (ts.map (inst σ 0)):=by grind[Et]
   rw[e1] at hx oQ ⊢
   have et:A3 (AQ Az) (f+1) (.mk 3 [] 0 (ts.map (inst σ 0))) B=((match (LX Az (A3 (AQ Az) f) (ts.map (inst σ 0)) B).1 with
     | none=>none
     | some l=>bif AQ Az l.length then none else some l),(LX Az (A3 (AQ Az) f) (ts.map (inst σ 0)) B).2):=by
    rw[A3,LX];simp only[show((3:Int)==0)=false from rfl,show((3:Int)==2)=false from rfl,show((3:Int)==7)=false from rfl,show((3:Int)==4)=false from rfl,Ks,AG,C7,AN];rcases Er (A3 (AQ Az) f) (ts.map (inst σ 0)) [] B with ⟨_|ls,B1⟩
    all_goals grind
   grind[vt,wt,IQ,List.mem_map_of_mem]
  .have e1:inst σ 0 (.mk 4 [] 0 ts)=.mk 4 [] 0 (ts.map (inst σ 0)):=by grind[Et]
   rw[e1] at hx oQ ⊢;rcases hu:Gz (A3 (AQ Az) f) (ts.map (inst σ 0)) [] true B with ⟨⟨out,ok⟩,B1⟩
   have et:A3 (AQ Az) (f+1) (.mk 4 [] 0 (ts.map (inst σ 0))) B=((bif ok&&!AQ Az out.length then some out else none),B1):=by grind[A3]
   rw[et] at oQ ⊢;have hmul:ts.length*Az<=ts.length*2 ^ 20:=Eg _ (by omega);refine vu (by grind) (by grind) (mem (by decide) (by decide) λt ht=>?_) hu oQ hx hs
   grind[wt,IQ,List.mem_map_of_mem]
  .grind[A3,ren]
  .simp only[BS,AE] at hv
   obtain⟨_,Nu,Us,_⟩:=hv;have e1:inst σ 0 (.mk 6 [] 0 [b,body])=.mk 6 [] 0 [b,inst σ 1 body]:=by grind[Da,Ea,Iv]
   have hcy:Co (1+σ.length) body=true:=by
    have:=D8 hc (by decide);simp only[D7,AE] at this;have h2:=this.2.1;rw[MQ];exact h2
   rw[e1] at hx oQ ⊢;have et:A3 (AQ Az) (f+1) (.mk 6 [] 0 [b,inst σ 1 body]) B=gH Az (A3 (AQ Az) f) b (inst σ 1 body) B:=by rfl
   rw[et] at oQ ⊢;simp only[Ep] at hdp;simp only[AZ] at hsz;rw[wt] at hw;simp only[C7,AN,qg,LU,wx] at hw
   have hwb:wt b<2 ^ 37/\wt body<2 ^ 37:=by
    have p3:1*wt b<=max 1 (cv body)*wt b:=B9 _ (by omega);omega
   refine oW hn JX hM Nu hcb Us hcy (by omega) hw ?_ hσ ?_ ?_ oQ hx hs
   .intro l hl t ht
    have hpy:=Fo (BA:=AQ Az) f (inst (B.length::σ) 0 body) (B++[b])
    have hB1:(A3 (AQ Az) f (inst (B.length::σ) 0 body) (B++[b])).2.length<=M:=by
     have:=ADG (Az:=Az) (f:=f) Us hcy b B;omega
    have hBl:=hpy.length_le;simp only[Bo,CO,B8] at hBl;obtain⟨z1,z2,z3,z4⟩:=I8 (B.length::σ) body 0 Us
    obtain⟨_,y2⟩:=IA (BA:=AQ Az) f (inst (B.length::σ) 0 body) (B++[b]) M (qM M) l (λi h1 h2=>by grind) (ID (λx hx=>by
     simp only[AE,DU,Bo,CO,B8]
     grind) body 0 Us) hl hB1 t ht
    have h1:=YC (BA:=AQ Az) f (inst (B.length::σ) 0 body) (B++[b]) l hl t ht;rw[kL _ _ _ Us] at h1;have y3:BT (·==(B.length:Int)) t<=cv body:=Bq (Rh (λ_ _=>rfl) t) h1;have y4:BT (·==(B.length:Int)) t*wt b<=max 1 (cv body)*wt b:=B9 _ (by omega);omega
   .intro B' fT x hx s hs
    have:=ih b [] (by omega) Nu hcb hwb.1 (by omega) B' (λy hy=>by grind)
    grind[EP]
   grind
end
theorem vv:∀(n:Nat) (l:List Int),l.Nodup->(∀i∈l,0<=i/\i<(n:Int))->l.length<=n:=by
 intro n
 induction n with
 | zero=>
  intro l _ h;cases l with
  | nil=>simp
  | cons a l=>
   have:=h a (by simp);omega
 | succ n ih=>
  intro l hn h
  by_cases hm:(n:Int)∈l
  .have h1:=ih (l.erase (n:Int)) (hn.erase _) (λi hi=>by grind)
   grind
  grind
theorem Rl.lB {B:List Ty} {lo hi:Nat} {b:Br} {p:Ty} {φ:List Nat} (H:Rl false 0 B lo hi [] b p φ):(occs b.body []).length<=φ.length:=by
 refine vv _ _ (LB b.body [] G7) λi hi=>?_
 rcases L1 b.body [] i hi with h|h
 .cases h
 .rcases H.vis i h with h|h|h
  all_goals grind
structure Yd (t b:Ty):Prop where
 val:valid b=true
 cl:Co 0 b=true
 dep:depth b<depth t
 WL:size b<size t
 wts:wt b<=wt t
 bws:bw b<=bw t
 nbs:nb b<=nb t
theorem ALC (t:Ty):1<=nF t:=by grind[nF]
theorem Td {P:Ty->Prop}:∀{l:List Ty},(∀t∈l,EJ P t)->L8 P l
 | [],_=>trivial
 | t::l,h=>by
  rw[L8];exact⟨h t (by simp),Td λa ha=>h a (by grind)⟩
theorem vw:∀(m:Nat) (t:Ty),depth t<=m->valid t=true->EJ (Yd t) t:=by
 intro m
 induction m with
 | zero=>
  intro t hd;obtain⟨k,n,i,ts⟩:=t
  grind[depth]
 | succ m ih=>
  intro t hd hv;obtain⟨k,n,i,ts⟩:=t;have PX:=hv;simp only[valid,AE] at hv;simp only[depth] at hd
  have up:∀t0∈ts,(wt t0<=wt (.mk k n i ts)/\bw t0<=bw (.mk k n i ts)/\nb t0<=nb (.mk k n i ts))->EJ (Yd (.mk k n i ts)) t0:=by
   intro t0 h0 h1;have oa:=Kh h0;have hs0:=Fj h0;refine V7 (λb hb=>?_) t0 (ih t0 (by omega) (Ce hv.2 h0));exact⟨hb.val,hb.cl,by have:=hb.dep; grind[depth],by have:=hb.WL; grind[size],Bq hb.wts h1.1,Bq hb.bws h1.2.1,Bq hb.nbs h1.2.2⟩
  have mem3:∀(hk:(k==6)=false) (hk2:(k==3||k==4)=true),∀t0∈ts,wt t0<=wt (.mk k n i ts)/\bw t0<=bw (.mk k n i ts)/\nb t0<=nb (.mk k n i ts):=by
   intro hk hk2 t0 h0;rw[wt,bw,nb,hk,hk2];simp only[AG,AN,IQ,GN,P5];have h1:=Dx (Ef (f:=wt) h0);have h2:=Dx (Ef (f:=bw) h0);have h3:=Dx (Ef (f:=nb) h0);omega
  have hty:∀l:List Ty,(∀t∈l,t∈ts)->True:=λ_ _=>trivial
  rw[EJ]
  by_cases h6:k=6
  .subst h6
   rcases M4 hv.1 with h' | h' | h' | h' | h' | h' | ⟨_,rfl,rfl,b,body,rfl,hcb⟩
   iterate 6 exact absurd h' (by simp)
   simp only[BS,AE] at hv;have e1:wt (.mk 6 [] 0 [b,body])=wt body+max 1 (cv body)*wt b:=rfl;have e2:bw (.mk 6 [] 0 [b,body])=bw body+1+(cv body+1)*bw b:=rfl;have e3:nb (.mk 6 [] 0 [b,body])=1+nb body+nF body*nb b:=rfl;have w1:1*wt b<=max 1 (cv body)*wt b:=B9 _ (by omega);have w3:1*bw b<=(cv body+1)*bw b:=B9 _ (by omega);have w4:1*nb b<=nF body*nb b:=B9 _ (ALC body);refine⟨λ_ b' body' he=>?_,λ_=>Td λt0 h0=>up t0 h0 ?_⟩
   .cases he
    exact⟨hv.2.1,hcb,by grind[depth,Ep],by grind[size,AZ],by omega,by omega,by omega⟩
   grind
  grind[Td]
theorem v7 {α β:Type} (p:α->Bool) (g:α->List β) (q:β->Bool):∀l:List α,(l.all p&&(l.flatMap g).all q)=l.all λb=>p b&&(g b).all q
 | []=>rfl
 | a::l=>by grind
theorem all_congr {α:Type} {p q:α->Bool}:∀{l:List α},(∀a∈l,p a=q a)->l.all p=l.all q
 | [],_=>rfl
 | a::l,h=>by
  rw[G5,G5,h a (by simp),all_congr λb hb=>h b (by grind)]
theorem CT.map_eq {α β γ:Type} {R:α->β->Prop} {f:α->γ} {g:β->γ} (h:∀a b,R a b->f a=g b):∀{l:List α} {m:List β},CT R l m->l.map f=m.map g
 | [],[],_=>rfl
 | a::l,b::m,⟨h1,h2⟩=>by rw[CH,CH,h a b h1,h2.map_eq h]
 | [],_::_,h=>h.elim
 | _::_,[],h=>h.elim
theorem Nb {t:Ty} {f:Nat} (hv:valid t=true) (hc:Co 0 t=true):∀b∈(A3 (AQ 32) f t []).2,Yd t b:=by
 have:=V9 (BA:=AQ 32) (P:=Yd t) f t [] hv hc (vw _ t (Aa _) hv) [] (λb hb=>by grind)
 grind[EP]
theorem AXJ:∀(f:Nat) (t:Ty),(verdict t=0->Cl (bw t))->xP f t=xR f t:=by
 intro f
 induction f with
 | zero=>intro t _; rfl
 | succ f ih=>
  intro t hs;rw[xP,xR];cases hg:!(verdict t==0)||!(Co 0 t) with
  | true=>rfl
  | false=>
   simp only[Gc,Bool.not_eq_false',Jk] at hg;obtain⟨hv,hc⟩:=hg;have hs:=hs hv;obtain⟨hv,_,_⟩:=Hh hv;simp only[AG];have h:=fQ (BA:=AQ 32) rfl rfl (depth t) t [] hv hc G7 hs [] (λx hx=>by grind);rw[EP hv hc] at h;have hb:=Nb (f:=depth t) hv hc;have hsz:=De (BA:=AQ 32) (depth t) t;generalize DM (AQ 32) (depth t) t=o at h hsz;generalize A3 (AQ 32) (depth t) t []=o2 at h hb;rcases o with _|l <;> rcases o2 with ⟨_|ps,B⟩
   .rfl
   .exact h.elim
   .exact h.elim
   .obtain⟨_,h2⟩:=h
    simp only at hb ⊢
    have e:l.map FN=ps.map (Jf B):=by
     have h3:CT (λb p=>b∈l/\∃φ,Rl false 0 B ([]:List Ty).length B.length [] b p φ) l ps:=by
      have gen:∀(l':List Br) (ps':List Ty),(∀b∈l',b∈l)->CT (λb p=>∃φ,Rl false 0 B ([]:List Ty).length B.length [] b p φ) l' ps'->CT (λb p=>b∈l/\∃φ,Rl false 0 B ([]:List Ty).length B.length [] b p φ) l' ps':=by
       intro l'
       induction l' with
       | nil=>intro ps' _ h; cases ps' with
        | nil=>trivial
        | cons _ _=>exact h.elim
       | cons a l' ihl=>
        intro ps' hm h;cases ps' with
        | nil=>exact h.elim
        | cons p ps'=>exact⟨⟨hm a (by simp),h.1⟩,ihl ps' (λb hb=>hm b (by grind)) h.2⟩
      grind
     refine h3.map_eq λb p ⟨Rb,φ,H⟩=>(um H (Aa _) (DN hs ?_)).symm
     have:=H.lB;have:=H.len
     grind
    rw[e,v7]
    have hall:(ps.map (Jf B)).all (λb=>Qr b&&b.bounds.all λb=>Dp (xP f b))=(ps.map (Jf B)).all (λb=>Qr b&&b.bounds.all λb=>Dp (xR f b)):=by
     refine all_congr λb hbm=>?_
     obtain⟨p,_,rfl⟩:=C0.1 hbm;congr 1;refine all_congr λc Nr=>?_
     rw[ih c];intro hvc;have Nr:c∈(LA B.length p []).2.map λx=>B.getD x Z9:=Nr
     obtain⟨x,_,rfl⟩:=C0.1 Nr;rw[XC];cases hx:B[x]? with
     | none=>exact DN hs (AI _)
     | some c=>exact DN hs (hb c (A2 hx)).bws
    rw[hall]
mutual
def vP (p:Int->Bool):Ty->Bool
 | .mk k n i ts=>bif k==5 then n==[]&&(ts.isEmpty&&p i) else bif k==2||k==3 then Qs p ts else true
def Qs (p:Int->Bool):List Ty->Bool
 | []=>true
 | t::l=>vP p t&&Qs p l
end
mutual
theorem Ye {p q:Int->Bool} (h:∀i,p i=true->q i=true):∀t:Ty,vP p t=true->vP q t=true
 | .mk k n i ts,ht=>by
  rw[vP] at ht ⊢;cases h5:k==5 with
  | true=>
   grind
  | false=>
   rw[h5] at ht;cases h2:k==2||k==3 with
   | true=>
    rw[h2] at ht;exact Te h ts ht
   | false=>rfl
theorem Te {p q:Int->Bool} (h:∀i,p i=true->q i=true):∀l:List Ty,Qs p l=true->Qs q l=true
 | [],_=>rfl
 | t::l,hl=>by
  simp only[Qs,AE] at hl ⊢;exact⟨Ye h t hl.1,Te h l hl.2⟩
end
theorem Tf (p:Int->Bool):∀(l m:List Ty),Qs p (l++m)=(Qs p l&&Qs p m)
 | [],m=>by rfl
 | t::l,m=>by simp[Qs,Tf p l m,N4]
theorem Oy:∀(l m:List Ty),AZ (l++m)=AZ l+AZ m
 | [],m=>by simp[AZ]
 | t::l,m=>by simp only[Dh,AZ,Oy l m]; omega
mutual
theorem Nc {p q:Int->Bool} {g:Int->Int} (h:∀i,p i=true->q (g i)=true):∀t:Ty,vP p t=true->vP q (CM (λi=>var (g i)) t)=true/\size (CM (λi=>var (g i)) t)=size t
 | .mk k n i ts,ht=>by
  rw[vP] at ht;rw[CM];cases h5:k==5 with
  | true=>
   grind[size,vP]
  | false=>
   rw[h5] at ht;simp only[AG] at ht ⊢;cases h2:k==2||k==3 with
   | true=>
    rw[h2] at ht;obtain⟨i1,i2⟩:=lD h ts ht
    grind[size,vP]
   | false=>
    grind[vP]
theorem lD {p q:Int->Bool} {g:Int->Int} (h:∀i,p i=true->q (g i)=true):∀l:List Ty,Qs p l=true->Qs q (Cp (λi=>var (g i)) l)=true/\AZ (Cp (λi=>var (g i)) l)=AZ l
 | [],_=>⟨rfl,rfl⟩
 | t::l,hl=>by
  simp only[Qs,AE] at hl;obtain⟨i1,i2⟩:=Nc h t hl.1;obtain⟨j1,j2⟩:=lD h l hl.2
  grind[Cp,Qs,AZ]
end
mutual
theorem AFI {p:Int->Bool} {c:Ty} (hc:vP p c=true):∀(b:Ty) (k:Nat),vP p b=true->vP p (Pj c b k)=true/\size (Pj c b k)<=size b+size c
 | .mk d n i ts,k,hb=>by
  have hb':=hb;rw[vP] at hb;rw[Pj];cases h5:d==5 with
  | true=>
   grind
  | false=>
   rw[h5] at hb;simp only[AG] at hb ⊢;cases h3:d==3 with
   | true=>
    have h23:(d==2||d==3)=true:=by grind
    rw[h23] at hb;obtain⟨i1,i2⟩:=v8 hc ts k hb
    grind[size,vP]
   | false=>grind
theorem v8 {p:Int->Bool} {c:Ty} (hc:vP p c=true):∀(l:List Ty) (k:Nat),Qs p l=true->Qs p (KW c l k)=true/\AZ (KW c l k)<=AZ l+size c
 | [],_,_=>⟨rfl,AI _⟩
 | t::l,k,hl=>by
  simp only[Qs,AE] at hl;rw[KW];cases decide (k<(Ai t).length) with
  | true=>
   obtain⟨i1,i2⟩:=AFI hc t k hl.1
   grind[Qs,AZ]
  | false=>
   obtain⟨i1,i2⟩:=v8 hc l (k-(Ai t).length) hl.2
   grind[Qs,AZ]
end
mutual
theorem lF {p:Int->Bool}:∀t:Ty,vP p t=true->∀i∈Ai t,p i=true
 | .mk k n i ts,ht,j,hj=>by
  rw[vP] at ht;rw[Ai] at hj;cases h5:k==5 with
  | true=>
   grind
  | false=>
   rw[h5] at ht hj;cases h3:k==3 with
   | true=>
    have h23:(k==2||k==3)=true:=by grind
    rw[h3] at hj;rw[h23] at ht;exact cI ts ht j hj
   | false=>grind
theorem cI {p:Int->Bool}:∀l:List Ty,Qs p l=true->∀i∈Bp l,p i=true
 | [],_,_,hj=>by cases hj
 | t::l,hl,j,hj=>by
  simp only[Qs,AE] at hl;rw[Bp] at hj;rcases CG.1 hj with hj|hj
  .exact lF t hl.1 j hj
  .exact cI l hl.2 j hj
end
mutual
theorem Oz:∀t:Ty,valid t=true->vP (λi=>decide (0<=i)&&decide (i<=200)) t=true
 | .mk k n i ts,h=>by
  have h':=h;simp only[valid,AE] at h;rw[vP];cases h5:k==5 with
  | true=>
   grind[I5,Pv]
  | false=>
   simp only[AG];rw[WM ts h.2];simp
theorem WM:∀l:List Ty,BS l=true->Qs (λi=>decide (0<=i)&&decide (i<=200)) l=true
 | [],_=>rfl
 | t::l,h=>by
  simp only[BS,AE] at h;rw[Qs,Oz t h.1,WM l h.2];rfl
end
abbrev Rr (N:Nat):Int->Bool:=λi=>decide (-201<=i)&&(decide (i<N)||i==hole)
theorem ADH {N:Nat} {i:Int}:Rr N i=true<->-201<=i/\(i<N\/i=hole):=by simp
theorem ALD {N M:Nat} (h:N<=M) (i:Int) (hi:Rr N i=true):Rr M i=true:=by grind
theorem count_map {l:List Int} {g:Int->Int} (h:∀i∈l,g i=hole->i=hole) (h0:l.count hole=0):(l.map g).count hole=0:=by grind[List.count_eq_zero]
theorem ALE (n:Nat):H8 n=CM λi=>var (bif decide (0<=i)&&!(i==hole) then i+n else i):=by grind[H8]
theorem AQd {N n:Nat} {i:Int} (hi:Rr N i=true):Rr (n+N) (bif decide (0<=i)&&!(i==hole) then i+n else i)=true:=by grind[decide]
theorem ADI {N n:Nat} (h:((n+N:Nat):Int)<hole) {i:Int} (hi:Rr N i=true) (he:(bif decide (0<=i)&&!(i==hole) then i+n else i)=hole):i=hole:=by grind
structure MA (W:Nat) (b:Br):Prop where
 ok:vP (Rr b.bounds.length) b.body=true
 WL:size b.body<=W
 nh:(Ai b.body).count hole=0
theorem MA.le {W V:Nat} {b:Br} (h:MA W b) (hl:W<=V):MA V b:=⟨h.ok,Bq h.WL hl,h.nh⟩
theorem MA.shift {W:Nat} {c:Br} (h:MA W c) {n:Nat} (hs:((n+c.bounds.length:Nat):Int)<hole):vP (Rr (n+c.bounds.length)) (H8 n c.body)=true/\size (H8 n c.body)<=W/\(Ai (H8 n c.body)).count hole=0:=by
 rw[ALE];obtain⟨i1,i2⟩:=Nc (q:=Rr (n+c.bounds.length)) (g:=λi=>bif decide (0<=i)&&!(i==hole) then i+n else i) (λi hi=>AQd hi) c.body h.ok;refine⟨i1,by rw[i2]; exact h.WL,?_⟩;rw[EN];exact count_map (λi hi he=>ADI hs (lF _ h.ok i hi) he) h.nh
section
variable {BA:Nat->Bool}
theorem lG {W:Nat} {b c:Br} {k:Nat} (hb:vP (Rr b.bounds.length) b.body=true) (hk:GI b.body=some k) (hc:MA W c) (hs:((b.bounds.length+c.bounds.length:Nat):Int)<hole) :
  vP (Rr (Dm b k c).bounds.length) (Dm b k c).body=true/\size (Dm b k c).body<=size b.body+W/\(Ai (Dm b k c).body).count hole+1=(Ai b.body).count hole/\k<(Ai b.body).length:=by
 obtain⟨s1,s2,s3⟩:=hc.shift hs;have el:(Dm b k c).bounds.length=b.bounds.length+c.bounds.length:=by simp[Dm]
 obtain⟨f1,f2⟩:=GD hk;have hkl:k<(Ai b.body).length:=(BL.1 f1).1;obtain⟨t1,t2⟩:=Sx f1 f2;have e:(Dm b k c).body=Pj (H8 b.bounds.length c.body) b.body k:=rfl;obtain⟨r1,r2⟩:=AFI s1 b.body k (Ye (λi hi=>ALD (ML _ _) i hi) _ hb)
 grind[Ob]
theorem lH {l:List Br} {W w S T:Nat} (hl:∀c∈l,MA W c/\c.bounds.length<=w) (hT:(T:Int)<hole):∀(f:Nat) (b:Br) (r:List Br),vP (Rr b.bounds.length) b.body=true->(Ai b.body).count hole<=f->size b.body+(Ai b.body).count hole*W<=S->b.bounds.length+(Ai b.body).count hole*w<=T ->
  Eb BA l f b=some r->∀d∈r,MA S d
 | 0,b,r,hb,hf,hS,_,h,d,hd=>by
  rw[Eb] at h;cases h;rw[E7.1 hd];exact⟨hb,by omega,by omega⟩
 | f+1,b,r,hb,hf,hS,hTb,h,d,hd=>by
  rw[Eb] at h;cases hk:GI b.body with
  | none=>
   rw[hk] at h;cases h;rw[E7.1 hd];refine⟨hb,by omega,?_⟩;rw[RM];intro hm;have h2:(Ai b.body).findIdx? (·==hole)=none:=hk
   grind
  | some k=>
   rw[hk] at h;rcases Lz h d hd with h' | ⟨c,h1,s,h2,h3⟩
   .grind
   .obtain⟨hc,hcw⟩:=hl c h1
    have hpos:0<(Ai b.body).count hole:=by
     have hfs:=GD hk
     grind
    have m0:1*w<=(Ai b.body).count hole*w:=B9 _ hpos;obtain⟨g1,g2,g3,_⟩:=lG hb hk hc (by omega);have el:(Dm b k c).bounds.length=b.bounds.length+c.bounds.length:=by simp[Dm]
    have m1:(Ai b.body).count hole*W=(Ai (Dm b k c).body).count hole*W+W:=by rw[<-g3,Ku]
    have m2:(Ai b.body).count hole*w=(Ai (Dm b k c).body).count hole*w+w:=by rw[<-g3,Ku]
    exact lH hl hT f _ s g1 (by omega) (by omega) (by omega) h2 d h3
theorem ADJ (n:Nat) (t:Ty):JO n t=CM (λi=>var (bif i==-1 then(n:Int) else bif decide (i<0) then i+1 else i)) t:=by rw[Sy]
theorem AQe {W:Nat} {b:Br} (h:MA W b) (hs:((b.bounds.length:Nat):Int)<hole):vP (Rr (b.bounds.length+1)) (JO b.bounds.length b.body)=true/\size (JO b.bounds.length b.body)=size b.body/\(Ai (JO b.bounds.length b.body)).count hole=0:=by
 rw[ADJ];obtain⟨i1,i2⟩:=Nc (q:=Rr (b.bounds.length+1)) (g:=λi=>bif i==-1 then(b.bounds.length:Int) else bif decide (i<0) then i+1 else i) (λi hi=>by grind) b.body h.ok;refine⟨i1,i2,?_⟩;rw[EN];refine count_map (λi hi he=>?_) h.nh
 grind
theorem AQf {N:Nat} {t:Ty} (h:vP (Rr (N+1)) t=true) (hs:(N:Int)<hole):vP (Rr N) (KV N hole t)=true/\size (KV N hole t)=size t:=by
 rw[NQ];refine Nc (q:=Rr N) (g:=λi=>bif i==(N:Int) then hole else i) (λi hi=>?_) t h
 grind
theorem wA {W Wb w C:Nat} {So:Option (List Br)} {bound:Ty} {b:Br} (hb:MA W b) (hC:(Ai b.body).length<=C) (hl:∀l,So=some l->∀c∈l,MA Wb c/\c.bounds.length<=w) {T:Nat} (hT:(T:Int)<hole) (hbT:b.bounds.length+(Ai b.body).length*w<=T) {r:List Br} (h:FL BA So bound b=some r):∀d∈r,MA (W+C*Wb) d:=by
 have hs:((b.bounds.length:Nat):Int)<hole:=by omega
 obtain⟨b1,b2,b3⟩:=AQe hb hs;obtain⟨r1,r2⟩:=AQf b1 hs;have aY:=hb.WL;intro d hd;unfold FL at h;cases ho:oI (·==(b.bounds.length:Int)) (JO b.bounds.length b.body) with
 | true=>
  rw[ho] at h;cases h;rw[E7.1 hd];exact⟨by grind,by grind,b3⟩
 | false=>
  rw[ho] at h;simp only[AG] at h;cases hk:GI (KV b.bounds.length hole (JO b.bounds.length b.body)) with
  | none=>
   rw[hk] at h;cases h;rw[E7.1 hd];refine⟨r1,by grind,?_⟩;rw[RM];intro hm;have h2:(Ai (KV b.bounds.length hole (JO b.bounds.length b.body))).findIdx? (·==hole)=none:=hk
   grind
  | some k=>
   rw[hk] at h;cases hb':So with
   | none=>grind
   | some l=>
    rw[hb'] at h;simp only at h;have Be:(Ai (KV b.bounds.length hole (JO b.bounds.length b.body))).length=(Ai b.body).length:=by simp[*,NQ,EN,Sy]
    have S0:(Ai (KV b.bounds.length hole (JO b.bounds.length b.body))).count hole<=(Ai b.body).length:=by grind
    have hcs:=Gu b.body;refine lH (S:=W+C*Wb) (T:=T) (λc hc=>hl l hb' c hc) hT _ ⟨b.bounds,KV b.bounds.length hole (JO b.bounds.length b.body)⟩ r r1 S0 ?_ ?_ h d hd
    .have m1:(Ai (KV b.bounds.length hole (JO b.bounds.length b.body))).count hole*Wb<=C*Wb:=B9 _ (by omega)
     grind
    .have m1:(Ai (KV b.bounds.length hole (JO b.bounds.length b.body))).count hole*w<=(Ai b.body).length*w:=B9 _ S0
     grind
end
section
variable {BA:Nat->Bool}
theorem wB {W S:Nat} {b c:Br} {args:List Ty} (hb:MA S b) (he:b.body=.mk 3 [] 0 args) (hc:MA W c) (hs:((b.bounds.length+c.bounds.length:Nat):Int)<hole):MA (S+W) ⟨b.bounds++c.bounds,.mk 3 [] 0 (args++[H8 b.bounds.length c.body])⟩:=by
 obtain⟨s1,s2,s3⟩:=hc.shift hs;have hok:=hb.ok;have hsz:=hb.WL;have hnh:=hb.nh;rw[he] at hok hsz hnh;have hok:Qs (Rr b.bounds.length) args=true:=by assumption
 have hsz:AZ args+1<=S:=by assumption
 have hnh:(Bp args).count hole=0:=by assumption
 refine⟨?_,?_,?_⟩
 all_goals grind[vP,Qs,Tf,Te,size,Oy,AZ,Ai,Vd]
theorem wC {T:Nat} (hT:(T:Int)<hole):∀{ls:List (List Br)} {ws vs:List Nat} {out r:List Br} {N S:Nat},(CT (λl w=>∀c∈l,MA w c) ls ws)->(CT (λl w=>∀c∈l,c.bounds.length<=w) ls vs) ->
  (∀b∈out,MA S b/\b.bounds.length<=N/\∃args,b.body=.mk 3 [] 0 args)->N+vs.sum<=T->JP BA ls out=some r->∀d∈r,MA (S+ws.sum) d
 | [],[],[],out,r,N,S,_,_,ho,_,h,d,hd=>by grind[JP]
 | [],_::_,_,_,_,_,_,h,_,_,_,_,_,_=>h.elim
 | [],[],_::_,_,_,_,_,_,h,_,_,_,_,_=>h.elim
 | _::_,[],_,_,_,_,_,h,_,_,_,_,_,_=>h.elim
 | _::_,_::_,[],_,_,_,_,_,h,_,_,_,_,_=>h.elim
 | l::ls,w::ws,v::vs,out,r,N,S,⟨hw,hws⟩,⟨hv,hvs⟩,ho,hN,h,d,hd=>by
  rw[JP] at h;rw[MO] at hN;cases hb:BA (HE out l).length with
  | true=>grind
  | false=>
   rw[hb] at h;have:=wC hT (N:=N+v) (S:=S+w) hws hvs ?_ (by omega) h d hd
   all_goals grind[HE,wB]
theorem lI:∀(f:Nat) (t:Ty) (l:List Br),valid t=true->Cl (bw t)->DM BA f t=some l->∀b∈l,MA (wt t) b:=by
 intro f
 induction f with
 | zero=>
  grind[DM]
 | succ f ih=>
  intro t l hv hs h d hd;obtain⟨k,n,i,ts⟩:=t;have PX:=hv;simp only[valid,AE] at hv;rw[DM] at h;have ALB:∀(hk:(k==6)=false) (hk2:(k==3||k==4)=true),∀t0∈ts,Cl (bw t0):=by grind[DN,bw,GN,Dx]
  rcases M4 hv.1 with ⟨rfl,rfl,rfl,rfl⟩|⟨rfl,rfl,rfl,rfl⟩|rfl|⟨rfl,rfl,rfl⟩|⟨rfl,rfl,rfl,hne⟩|⟨rfl,rfl,rfl,h0⟩|⟨rfl,rfl,rfl,b,body,rfl,hcb⟩
  .cases h
   rw[E7.1 hd];exact⟨rfl,by grind[size,wt],rfl⟩
  .grind
  .have hm:∀i,(decide (0<=i)&&decide (i<=200))=true->Rr 0 (-1-i)=true:=λi hi=>by grind
   obtain⟨m1,m2⟩:=Nc hm _ (Oz _ PX);cases h;rw[E7.1 hd];refine⟨m1,?_,?_⟩
   all_goals simp[*,size,NR,wt,MQ,Ai,EN]
  .simp only[show((3:Int)==0)=false from rfl,show((3:Int)==2||(3:Int)==5)=false from rfl,AG,C7,AN] at h
   cases hsn:FM (ts.map (DM BA f)) with
   | none=>grind
   | some ls=>
    rw[hsn] at h;simp only at h;have ha:=KY hsn;cases he:ls.any List.isEmpty with
    | true=>grind
    | false=>
     rw[he] at h;have ZF:=ALB rfl rfl;have q1:CT (λl w=>∀c∈l,MA w c) ls (ts.map wt):=ha.JS λt l hm hg c hc=>ih t l (Ce hv.2 hm) (ZF t hm) hg c hc
     have q2:CT (λl w=>∀c∈l,c.bounds.length<=w) ls (ts.map bw):=ha.JS λt l _ hg c hc=>(De f t l hg c hc).1
     have:=wC (T:=bw (.mk 3 [] 0 ts)) hs (N:=0) (S:=1) q1 q2 (λb hb=>by
      rw[E7.1 hb];exact⟨⟨rfl,by simp[size,AZ],rfl⟩,by simp,_,rfl⟩) (by grind[bw,GN]) h d hd
     grind[wt,IQ]
  .simp only[show((4:Int)==0)=false from rfl,show((4:Int)==2||(4:Int)==5)=false from rfl,show((4:Int)==3)=false from rfl,AG,C7,AN] at h
   cases hsn:FM (ts.map (DM BA f)) with
   | none=>grind
   | some ls=>
    rw[hsn] at h;simp only at h;have ha:=KY hsn;cases hb:BA ls.flatten.length with
    | true=>grind
    | false=>
     rw[hb] at h;cases h;obtain⟨l',h1,h2⟩:=XB.1 hd;obtain⟨t,h3,h4⟩:=ha.Mb l' h1;refine(ih t l' (Ce hv.2 h3) (ALB rfl rfl t h3) h4 d h2).le ?_;have e:wt (.mk 4 [] 0 ts)=1+(ts.map wt).sum:=by grind[wt,IQ]
     have:=Dx (Ef (f:=wt) h3);omega
  .have hm:∀i,(decide (0<=i)&&decide (i<=200))=true->Rr 0 (-1-i)=true:=λi hi=>by grind
   obtain⟨m1,m2⟩:=Nc hm _ (Oz _ PX);cases h;rw[E7.1 hd];refine⟨m1,?_,?_⟩
   .simp[*,size,NR,wt,MQ]
   .show(Ai (qf _)).count hole=0
    rw[NR,EN,Ai]
    grind[List.count_eq_zero,hole]
  .simp only[show((6:Int)==0)=false from rfl,show((6:Int)==2||(6:Int)==5)=false from rfl,show((6:Int)==3)=false from rfl,show((6:Int)==4)=false from rfl,AG,C7,AN,dU] at h
   simp only[BS,AE] at hv;obtain⟨_,Nu,Us,_⟩:=hv;have hbw:bw (.mk 6 [] 0 [b,body])=bw body+1+(cv body+1)*bw b:=rfl;have oC:Cl (bw b):=DN hs (by grind);have hsy:Cl (bw body):=DN hs (by omega);cases hb:DM BA f body with
   | none=>grind
   | some l0=>
    rw[hb] at h;simp only at h;rcases Lz h d hd with h' | ⟨a,h1,s,h2,h3⟩
    .grind
    .obtain⟨z1,z2⟩:=De f body l0 hb a h1
     have e:wt (.mk 6 [] 0 [b,body])=wt body+max 1 (cv body)*wt b:=rfl;rw[e];refine wA (T:=bw (.mk 6 [] 0 [b,body])) (w:=bw b) (ih body l0 Us hsy hb a h1) (C:=max 1 (cv body)) (by omega) (λl hl c hc=>⟨ih b l Nu oC hl c hc,(De f b l hl c hc).1⟩) hs ?_ h2 d h3;have m1:(Ai a.body).length*bw b<=cv body*bw b:=B9 _ z2
     grind
end
theorem BD.lJ {E:Env} {L:A8} {f:FuncId} {args:List AV} {s s':AM} {v:AV} {T:A8->List AV->AM->Option (AV×AM)} {fn:Func} (hfn:E.P.funcs[f]?=some fn) (hc:E.clone f=true) (ht:E.told f=some T) (h:T L args s=some (v,s')):BD E L f args s v s':=by
 refine⟨1,λm hm=>?_⟩;obtain⟨m,rfl⟩:∃m',m=m'+1:=⟨m-1,by omega⟩
 grind[Dz,OC]
theorem WN {l:List Int} (hs:l.Pairwise (·<·)) {h:Nat} {u:Int} (hu:l[h]?=some u):(∀x∈l.take (h+1),x<=u)/\(∀x∈l.drop h,u<=x)/\(∀x∈l.drop (h+1),u<x):=by
 have e:l=l.take h++u::l.drop (h+1):=by grind[drop_cons,List.take_append_drop]
 have hp:=hs;rw[e,List.pairwise_append] at hp;obtain⟨h1,h2,h3⟩:=hp;have h4:=(List.pairwise_cons.1 h2).1;refine⟨λx hx=>?_,λx hx=>?_,h4⟩
 all_goals grind
section
variable {R:RT}
theorem P6 (w:Int):AL (env R) 152 [AA w] λr=>r=BB false:=
 AXL (u0:=AA w) (by simp) (ALG (FE ⟨_,Fw,by simp⟩))
theorem oc (w:Int):AL (env R) 163 [AA w] λr=>r=BB false:=
 AXM (u0:=AA w) (by simp) (ALH (FE ⟨_,Fw,by simp⟩))
theorem od (a b:Int):AL (env R) 162 [AA a,AA b] λr=>r=BB (decide (a<b)):=by
 refine AXN (u0:=AA a) (u1:=AA b) (by simp) (ALI ?_);refine AD (P6 a) ?_;rintro v rfl;exact Bm (Bm (Bm (pk (Ao (Ao (Ao (Ah (pk ⟨_,Fw,rfl⟩))))))))
def wD (bs:List (List AV)) (l:List Int) (x:AV):Prop:=(x=.AB []/\l=[])\/∃id,x=.ref id 0 l.length 1/\bs[id]?=some (l.map λn=>AA n)/\l≠[]
theorem LD {s:AM} {id:Nat} {l:List Int} (hid:s.bs[id]?=some (l.map λn=>AA n)) (hne:l≠[]):alive s id=true:=by
 obtain⟨c,r,hc⟩:∃c r,l=c::r:=by
  cases l with
  | nil=>grind
  | cons c r=>simp
 simp[*]
theorem Tg {want:Bool} {s:AM} {W:(AV->AM->Prop)->Prop} {K:AV->AM->Prop} (h:K (.tuple []) s):I4 (.tuple []) want s W K:=h
theorem ADK {s:AM} {id i:Nat} {l:List Int} {w:Int} (hid:s.bs[id]?=some (l.map λn=>AA n)) (hne:l≠[]) (hw:l[i]?=some w) {K:AV->Prop} (h:K (AA w)):Bh s 1 (.ref id 0 l.length 1) (AA i) λa=>D6 (env R) s none a K:=by
 have hi:i<l.length:=(BL.1 hw).1;refine⟨⟨by omega,by omega,rfl,LD hid hne⟩,?_⟩
 simp_all
def Found (l:List Int) (w:Int) (i:Nat) (b:Bool):Prop:=i<=l.length/\(b=true->l[i]?=some w)/\(b=false->(∀u∈l.take i,u<w)/\∀u∈l.drop i,w<u)
theorem Yf {w:Int} {l:List Int} (hs:l.Pairwise (·<·)) {id:Nat} {s:AM} (hid:s.bs[id]?=some (l.map λn=>AA n)) (hne:l≠[]) (hl:l.length<2 ^ 40) {Post:AV->Prop} (hP:∀(i:Nat) b,Found l w i b->Post (.tuple [AA i,BB b])) {n0 ro rt n m:Nat} :
  ∀(d i j:Nat),j-i<=d->i<=j->j<=l.length->(∀u∈l.take i,u<w)->(∀u∈l.drop j,w<=u)->Th R n0 ro rt (.ref id 0 l.length 1) (AA w) (AA l.length) (AA i) (AA j) s (QI n m Post):=by
 have fin:∀(i:Nat) b,Found l w i b->QI n m Post (.tuple [AA i,BB b]) s:=λi b h=>⟨_,by simp,hP i b h⟩
 intro d
 induction d with
 | zero=>
  intro i j h1 h2 h3 h4 h5;have e:i=j:=by omega
  subst e;refine gI (Ah ?_);simp only[Int.lt_irrefl,XE];refine Am (wE (Ah ?_))
  by_cases hi:i<l.length
  .obtain⟨u,hu⟩:∃u,l[i]?=some u:=⟨_,Ak hi⟩
   have b1:decide ((i:Int)<(l.length:Int))=true:=by grind
   rw[b1];refine Ao (Ao ?_);refine Ao ?_;have hi':i<l.length:=hi;refine⟨⟨by omega,by omega,rfl,LD hid hne⟩,?_⟩;have e:0+((i:Int).toNat)*1=i:=by omega
   rw[e];refine Ao ?_;simp only[D6,hid,wO,DV,Fy,hu,MN,xL,xM,xF,xG];refine Ao (Ao (Au ?_));cases hb:(u==w) with
   | true=>
    have huw:u=w:=by grind
    subst huw;refine Ao ?_;refine KB (by simp) (KB (by simp) (KB (by simp) (KB (by simp) (KB (by simp) (KB (by simp) (Tg (Tg (KB (by simp) ?_))))))));exact Ao (pk (pk (fin i true ⟨h3,λ_=>hu,by simp⟩)))
   | false=>
    have huw:u≠w:=by grind
    have hf:Found l w i false:=⟨h3,by simp,λ_=>⟨h4,λx hx=>by
     have h6:=(WN hs hu).2.1 x hx;have h7:=h5 u (by rw[drop_cons hu]; simp);omega⟩⟩
    refine Ao ?_;refine Ao (Ao (Ao ?_));refine⟨⟨by omega,by omega,rfl,LD hid hne⟩,?_⟩;rw[e];refine Ao ?_;simp only[D6,hid,wO,DV,Fy,hu,MN,xL,xM,xF,xG];refine Ao ?_;refine AD (oc u) ?_;simp[*]
  .have b1:decide ((i:Int)<(l.length:Int))=false:=by grind
   rw[b1];refine KB (by simp) (KB (by simp) (KB (by simp) (KB (by simp) (KB (by simp) (KB (by simp) (KB (by simp) ?_))))));refine Tg (Tg (Tg (Tg (Tg (Tg (Tg (Tg (Tg ?_))))))));exact KB (by simp) (pk (fin i false ⟨h3,by simp,λ_=>⟨h4,λx hx=>by grind⟩⟩))
 | succ d ih=>
  intro i j h1 h2 h3 h4 h5
  by_cases hij:i<j
  .refine gI (Ah ?_)
   have b1:decide ((i:Int)<(j:Int))=true:=by grind
   rw[b1];refine A4 (ALJ (BW (by omega) (by omega) ?_));have hw1:IntKind.u64.wrap ((i:Int)+j)=(i:Int)+j:=by grind[IntKind.wrap,IntKind.bits,IntKind.signed]
   have AQh:∀(K:AV->Prop),K (.pv (.sc (.int .u64 ((i:Int)+j))))->MB .u64 (AA ((i:Int)+j)) K:=by
    intro K h;simp only[MB,hw1];exact h
   refine AQh _ ?_
   have AXO:∀(K:AV->Prop),K (.pv (.sc (.int .u64 (((i+j) / 2:Nat):Int))))->CY .u64 .shr (.pv (.sc (.int .u64 ((i:Int)+j)))) (.pv (.sc (.int .u64 1))) K:=by
    intro K h;refine⟨⟨rfl,rfl⟩,by omega,?_⟩
    have e:((i:Int)+j).fdiv (2 ^ (min (1:Int).toNat IntKind.u64.bits))=(((i+j) / 2:Nat):Int):=by
     have:(2:Int) ^ (min (1:Int).toNat IntKind.u64.bits)=2:=by rfl
     grind
    grind
   refine AXO _ ?_
   have hw2:IntKind.i64.wrap ((((i+j) / 2:Nat):Int))=(((i+j) / 2:Nat):Int):=by
    unfold IntKind.wrap;simp[IntKind.bits,IntKind.signed];omega
   have ALK:∀(K:AV->Prop),K (AA (((i+j) / 2:Nat):Int))->MB .i64 (.pv (.sc (.int .u64 (((i+j) / 2:Nat):Int)))) K:=by
    intro K h;simp only[MB,hw2];exact h
   refine ALK _ ?_;generalize hh:(i+j) / 2=h at *;obtain⟨u,hu⟩:∃u,l[h]?=some u:=⟨_,Ak (by omega)⟩;refine ADK hid hne hu ?_;refine AD (od u w) ?_;rintro v rfl;have hsa:=WN hs hu
   by_cases hlt:u<w
   .rw[Ap hlt]
    refine A4 (BW (by omega) (by omega) ?_);have:=ih (h+1) j (by omega) (by omega) h3 (λx hx=>by grind) h5
    grind
   .rw[Aw hlt]
    exact Am (ih i h (by omega) (by omega) (by omega) h4 (λx hx=>by grind))
  .exact ih i j (by omega) h2 h3 h4 h5
theorem Yg {w:Int} {l:List Int} (hs:l.Pairwise (·<·)) {x:AV} {s:AM} (hx:wD s.bs l x) (hl:l.length<2 ^ 40) :
  ∃v,(∃(i:Nat) (b:Bool),v=.tuple [AA i,BB b]/\Found l w i b)/\∀L,BD (env R) L 142 [x,AA w] s v s:=by
 rcases hx with ⟨rfl,rfl⟩|⟨id,rfl,hid,hne⟩
 .have:AL (env R) 142 [.AB [],AA w] λv=>∃(i:Nat) (b:Bool),v=.tuple [AA i,BB b]/\Found [] w i b:=by
   refine AXP (u0:=.AB []) (u1:=AA w) (by simp) (wG ?_);simp;refine gI ?_;simp;refine wE ?_;simp[*,QP,Found]
  obtain⟨v,h1,h2⟩:=this
  grind
 .have Be:AY [] 0 0 [.ref id 0 l.length 1,AA w]=none:=by rfl
  refine i142 Be (wG ?_);have hal:=LD hid hne
  have hlen:∀K:AV->Prop,K (AA l.length)->BO s (.ref id 0 l.length 1) K:=by
   intro K h;simp only[BO,A7,hal,AN,wO];exact h
  refine hlen _ ?_;exact Yf hs hid hne hl (λi b h=>⟨i,b,rfl,h⟩) _ 0 l.length (Aa _) (by omega) (Aa _) (λu hu=>by grind) (λu hu=>by grind)
end
mutual
def cJ (u:Nat):Ty->List Int
 | .mk k _ i ts=>(bif k==5&&decide ((u:Int)<=i) then [i-u] else [])++O0 u k 0 ts
def O0 (u:Nat) (k:Int) (j:Nat):List Ty->List Int
 | []=>[]
 | t::l=>cJ (u+Ea k j) t++O0 u k (j+1) l
end
mutual
theorem Ti:∀(t:Ty) (u:Nat),cJ u t=[]<->Co u t=true
 | .mk k n i ts,u=>by
  rw[cJ,Co];cases k==5&&decide ((u:Int)<=i) with
  | true=>simp
  | false=>simpa using WO ts u k 0
theorem WO:∀(l:List Ty) (u:Nat) (k:Int) (j:Nat),O0 u k j l=[]<->D7 u k j l=true
 | [],_,_,_=>by simp[O0,D7]
 | t::l,u,k,j=>by
  rw[O0,D7,jJ,Ti t,WO l,AE]
end
mutual
theorem gJ:∀(t:Ty) (u:Nat),(cJ u t).length<=size t
 | .mk k n i ts,u=>by
  have:=lK ts u k 0
  grind[cJ,size]
theorem lK:∀(l:List Ty) (u:Nat) (k:Int) (j:Nat),(O0 u k j l).length<=AZ l
 | [],_,_,_=>by simp[O0]
 | t::l,u,k,j=>by
  have:=gJ t (u+Ea k j);have:=lK l u k (j+1)
  grind[O0,AZ]
end
mutual
def ixs:Ty->Bool
 | .mk k _ i ts=>(!(k==5)||(decide (-(2 ^ 60)<=i)&&decide (i<2 ^ 60)))&&og ts
def og:List Ty->Bool
 | []=>true
 | t::l=>ixs t&&og l
end
theorem gK {l:List Int} {w x:Int} {i:Nat}:x∈l.take i++w::l.drop i<->x∈l\/x=w:=by grind[List.take_append_drop]
theorem gL {l:List Int} {w:Int} {i:Nat} (hi:i<=l.length):(l.take i++w::l.drop i).length=l.length+1:=by grind
theorem insert_sorted {l:List Int} {w:Int} {i:Nat} (hs:l.Pairwise (·<·)) (h1:∀u∈l.take i,u<w) (h2:∀u∈l.drop i,w<u):(l.take i++w::l.drop i).Pairwise (·<·):=by grind[List.pairwise_cons]
def NS (q:Nat) (l:List Int) (bs:List (List AV)):Prop:=∃x,bs[q]?=some [x]/\wD bs l x
structure dV (q:Nat) (l l':List Int) (new:List Int) (s s':AM):Prop where
 ns:NS q l' s'.bs
 srt:l.Pairwise (·<·)->l'.Pairwise (·<·)
 mem:∀x,x∈l'<->x∈l\/x∈new
 len:l'.length<=l.length+new.length
 ts:s'.ts=s.ts
 grow:s.bs.length<=s'.bs.length
 keep:∀(p:Nat) (k n:AV) (r:List AV),(∀i,n≠AA i)->s.bs[p]?=some (k::n::r)->s'.bs[p]?=some (k::n::r)
section
variable {R:RT}
theorem cK {w:Int} {l:List Int} {x:AV} {s:AM} {q i:Nat} (hq:s.bs[q]?=some [x]) (hx:wD s.bs l x) (hl:l.length<2 ^ 20) (hi:i<=l.length) {L:A8} (hro:L.ro=0) :
  ∃id bs',BD (env R) L 143 [x,AA i,.AB [[.sc (.int .i64 w)]]] s (.ref id 0 (l.length+1) 1) ⟨bs',s.ts⟩/\bs'[id]?=some ((l.take i++w::l.drop i).map λn=>AA n)/\bs'[q]?=some [x]/\q≠id/\s.bs.length<=bs'.length/\q<bs'.length /\
   (∀(p:Nat) (k n:AV) (r:List AV),(∀i,n≠AA i)->s.bs[p]?=some (k::n::r)->bs'[p]?=some (k::n::r)):=by
 have hql:q<s.bs.length:=(BL.1 hq).1;have ei:(AA i)=.pv (.sc (.int .i64 (.ofNat i))):=rfl;rcases hx with ⟨rfl,rfl⟩|⟨id,rfl,hid,hne⟩
 .have hi0:i=0:=by grind
  subst hi0;refine⟨s.bs.length,s.bs++[[AA w]],BD.lJ Tryz.func143 (by rfl) (T:=Zj) (by rfl) ?_,?_,?_,by omega,by simp,by grind,?_⟩
  .rfl
  all_goals grind
 .have hil:id<s.bs.length:=(BL.1 hid).1
  have AXQ:id≠q:=by
   intro e;subst e
   simp_all
  have h1:1<=l.length:=by grind
  refine⟨s.bs.length,s.bs.set id []++[(l.take i++w::l.drop i).map λn=>AA n],BD.lJ Tryz.func143 (by rfl) (T:=Zj) (by rfl) ?_,?_,?_,by omega,by simp,by grind,?_⟩
  .have b1:Nat.beq l.length (l.map λn=>AA n).length=true:=by simp
   have b2:Nat.ble 1 l.length=true:=by simp[*]
   have b3:Nat.ble i l.length=true:=by simp[*]
   have b4:Nat.ble l.length 1000000000=true:=by simp; omega
   grind[Nat.ble,Zj,A9,List.map_take,List.map_drop]
  .simp
  .rw[Ci (by grind),Fz AXQ,hq]
  .intro p k n r qb hp
   have KT:p<s.bs.length:=(BL.1 hp).1
   have:id≠p:=by
    intro e;subst e;rw[hp] at hid;rcases l with _|⟨a,_|⟨b,l⟩⟩
    all_goals grind
   rw[Ci (by grind),Fz this,hp]
theorem wJ {w:Int} {l:List Int} (hsd:l.Pairwise (·<·)) {s:AM} {q:Nat} (hns:NS q l s.bs) (hl:l.length<2 ^ 20) {L:A8} (hro:L.ro=0) (hn0:L.n0=0) :
  ∃v s',(v=.tuple []/\∃l',dV q l l' [w] s s')/\BD (env R) L 118 [.ptr q 0,AA w] s v s':=by
 obtain⟨x,hq,hx⟩:=hns;have hql:q<s.bs.length:=(BL.1 hq).1;refine AXS (ALL (Cy (AP hq) (AK (AP hq) (AU (off:=0) hq rfl ?_))));obtain⟨v,⟨i,b,rfl,hf⟩,hc⟩:=Yg (R:=R) (w:=w) hsd hx (by omega);refine⟨_,_,hc _,CE rfl (CE rfl (nt ?_))⟩;obtain⟨hi,hb,hfb⟩:=hf;cases b with
 | true=>
  refine Am ⟨rfl,l,⟨x,hq,hx⟩,λh=>h,λy=>⟨.inl,?_⟩,by simp,rfl,Aa _,λ_ _ _ _ _ h=>h⟩
  grind
 | false=>
  obtain⟨h8,h9⟩:=hfb rfl;obtain⟨id,bs',h1,h2,h3,h4,h5,h6,h7⟩:=cK (R:=R) (w:=w) hq hx hl hi (L:=Cv (env R) 118 L.n0 L.ro L.rt) hro;refine A4 (Cy (AP hq) (AK (AP hq) (AU (off:=0) hq rfl (Ou ?_))));refine⟨_,_,h1,Cy (AP h3) (AK (AP h3) (DD h3 (by simp) rfl (by simp[*]) rfl (.inl (by simp[*])) ?_))⟩;have oG:∀y,(bs'.set q y)[q]?=some y:=λy=>by grind
  refine⟨rfl,l.take i++w::l.drop i,⟨_,oG _,.inr ⟨id,by rw[gL hi],by grind,by simp⟩⟩,λhs=>insert_sorted hs h8 h9,λy=>?_,by grind,rfl,by grind,?_⟩
  all_goals grind[gK]
theorem dV.refl {q:Nat} {l:List Int} {s:AM} (h:NS q l s.bs):dV q l l [] s s:=⟨h,λh=>h,by simp,by simp,rfl,Aa _,λ_ _ _ _ _ h=>h⟩
theorem dV.trans {q:Nat} {l l1 l2 n1 n2:List Int} {s s1 s2:AM} (h1:dV q l l1 n1 s s1) (h2:dV q l1 l2 n2 s1 s2):dV q l l2 (n1++n2) s s2:=by
 refine⟨h2.ns,λh=>h2.srt (h1.srt h),λx=>?_,?_,by rw[h2.ts,h1.ts],Bq h1.grow h2.grow,λp k n r hn h=>h2.keep p k n r hn (h1.keep p k n r hn h)⟩
 .rw[h2.mem,h1.mem,CG]
  grind
 .have:=h1.len
  have:=h2.len
  grind
theorem dV.push {q:Nat} {l:List Int} {s:AM} (h:NS q l s.bs) (b:List AV):dV q l l [] s ⟨s.bs++[b],s.ts⟩:=by
 obtain⟨x,hq,hx⟩:=h;have hql:q<s.bs.length:=(BL.1 hq).1;refine⟨⟨x,by rw[Ci hql,hq],?_⟩,λh=>h,by simp,by simp,rfl,by simp,λp k n r _ hp=>?_⟩
 .rcases hx with ⟨h1,h2⟩|⟨id,h1,h2,h3⟩
  .exact .inl ⟨h1,h2⟩
  .exact .inr ⟨id,h1,by rw[Ci (BL.1 h2).1,h2],h3⟩
 grind
def wK (R:RT) (t:Ty):Prop:=∀(x:AV),A5 t x->∀(u:Nat),u+size t<2 ^ 30->∀(q:Nat) (l:List Int) (s:AM) (L:A8),l.Pairwise (·<·)->NS q l s.bs->l.length+size t<2 ^ 19->L.ro=0->L.n0=0 ->
 ∃v s',(v=.tuple []/\∃l',dV q l l' (cJ u t) s s')/\BD (env R) L 87 [x,AA u,.ptr q 0] s v s'
theorem wL (n:List UInt8) (i:Int):SS n≠AA i:=by simp
theorem oh {k0 i0:Int} {n0':List UInt8} {ts:List Ty} {a:AV} (ha:Aq a (AW ts)) (hl:AZ ts<2 ^ 30) (ih:∀t∈ts,wK R t) {u q b0:Nat} (hu:u+AZ ts+1<2 ^ 30) {l0:List Int} (hs0:l0.Pairwise (·<·)) {s0:AM} {L:A8} (hro:L.ro=0) (hn0:L.n0=0) {Post:AV->AM->Prop} {pre:List Int}
  (hP:∀l' s',dV q l0 l' (pre++O0 u k0 0 ts) s0 s'->Post (.tuple []) s') (hlen:l0.length+pre.length+AZ ts<2 ^ 19) :
  ∀(j i:Nat) (l:List Int) (s:AM) (don:List Int),i+j=ts.length->s.bs[b0]?=some [AA k0,SS n0',AA i0,a]->dV q l0 l (pre++don) s0 s->don++O0 u k0 i (ts.drop i)=O0 u k0 0 ts->don.length+AZ (ts.drop i)<=AZ ts->lM R L.n0 L.ro L.rt (AA u) (.ptr q 0) (.ptr b0 0) a (AA ts.length) (AA i) s Post:=by
 have UT:=BP ts;intro j
 induction j with
 | zero=>
  intro i l s don hi hb hs hd _;refine AFJ (Ah ?_);have h1:¬ ((i:Int)<ts.length):=by omega
  rw[Aw h1];refine Am ?_;have h2:ts.drop i=[]:=Bu (by omega);rw[h2] at hd;simp only[O0,Gd] at hd;rw[hd] at hs;exact hP l s hs
 | succ j D2=>
  intro i l s don hi hb hs hd hsz;refine AFJ (Ah ?_);have h1:((i:Int)<ts.length):=by omega
  rw[Ap h1];refine A4 (AQi ?_);obtain⟨t,ht⟩:∃t,ts[i]?=some t:=⟨_,Ak (by omega)⟩;rw[drop_cons ht] at hd hsz;simp only[O0,AZ] at hd hsz;refine BI ha (row:=Af t) (by omega) (by grind[BE]) (Ac t) (by omega) (Cg ?_);have EA:=A5.BZ t;have Rb:=PZ k0 i;have ZF:=Fj (A2 ht);have AQj:=ih t (A2 ht) _ EA (u+Ea k0 i) (by omega);have hrl:((Af t).map AV.pv).length=4:=by grind[Ac]
  have AQk:=DK t;have LO:=L6 t;have hst:=dV.push hs.ns ((Af t).map AV.pv);have hlb:=hs.len;simp only[Bo] at hlb;have hfl:=gJ t (u+Ea k0 i);generalize (Af t).map AV.pv=row at AQj hrl AQk LO hst;obtain⟨bs,tk⟩:=s;refine Bt (CL (Ay bs Z4) hrl rfl (by decide) (by simp[*]) AQk (.inl (by simp[*])) ?_);have e1:(bs++[Z4]).set bs.length row=bs++[row]:=by simp
  simp only at hst hb hs;rw[e1];have gb:=Av hb row;refine Ad (Ay bs row) hrl (Ad gb rfl ?_);have aY:AL (env R) 119 [.agg [AA k0,SS n0',AA i0,a],AA i] λr=>r=AA (Ea k0 i):=K5 ha i
  refine AD aY ?_;rintro _ rfl;refine BW (by omega) (by omega) ?_;have e2:((u:Int)+(Ea k0 i:Nat))=((u+Ea k0 i:Nat):Int):=by omega
  rw[e2];obtain⟨v,s1,⟨rfl,l1,h3⟩,hc⟩:=AQj q l ⟨bs++[row],tk⟩ (Cv (env R) 87 L.n0 L.ro L.rt) (hs.srt hs0) hst.ns (by omega) hro hn0;refine⟨_,_,hc,Ad (Ay bs row) hrl LO,?_⟩;refine AQl (BW (by omega) (by omega) ?_);have hall:=(hs.trans hst).trans h3;simp only[Gd,Di] at hall;have:=D2 (i+1) l1 s1 (don++cJ (u+Ea k0 i) t) (by omega) (h3.keep _ _ _ _ (wL _) gb) hall (by grind) (by grind)
  grind
mutual
theorem WQ:∀(t:Ty),ixs t=true->wK R t
 | .mk k n i ts,R3=>by
  intro x hx u hu q l s L hsd hns hl hro hn0;obtain⟨a,rfl,ha⟩:=hx;simp only[size] at hl hu;simp only[ixs,AE] at R3;have ih:=Tj ts R3.2
  suffices H:∀Post:AV->AM->Prop,(∀l' s',dV q l l' (cJ u (.mk k n i ts)) s s'->Post (.tuple []) s')->wM R L.n0 L.ro L.rt (.agg [AA k,SS n,AA i,a]) (AA u) (.ptr q 0) s Post from
   m87 (H _ λl' s' h=>⟨rfl,l',h⟩)
  intro Post hP;have hst:=dV.push hns [AA k,SS n,AA i,a];have g0:=Ay s.bs [AA k,SS n,AA i,a];refine AQm (Bw (cs:=[AA k,SS n,AA i,a]) rfl (by simp[ha.ok]) (AK (AP g0) (AU (off:=0) g0 rfl (Au ?_))))
  have tail:∀(pre l1:List Int) (s1:AM),dV q l l1 pre s s1->pre++O0 u k 0 ts=cJ u (.mk k n i ts)->pre.length<=1->s1.bs[s.bs.length]?=some [AA k,SS n,AA i,a]->lN R L.n0 L.ro L.rt (AA u) (.ptr q 0) (.ptr s.bs.length 0) s1 Post:=by
   intro pre l1 s1 h1 h2 h3 h4;refine AQn (AK (AP h4) (AU (off:=3) h4 rfl (Al (n:=ts.length) (by rw[ha.A7,AR]) ?_)));exact oh (R:=R) (q:=q) (l0:=l) (s0:=s) (L:=L) (pre:=pre) (Post:=Post) ha (by omega) ih (by omega) hsd hro hn0 (λl' s' h=>hP l' s' (by grind)) (by omega) ts.length 0 l1 s1 [] (by omega) h4 (by grind) (by simp) (by simp)
  cases hk:(k==5) with
  | true=>
   have e2:k=5:=by grind
   subst e2;have AXT:=R3.1;simp at AXT;refine Ao (AK (AP g0) (Ao (AU (off:=2) g0 rfl (Ao (Ao (NU (pk ?_)))))))
   by_cases hui:(u:Int)<=i
   .have:i>=(u:Int):=hui
    rw[Ap this];refine A4 (AK (AP g0) (AU (off:=2) g0 rfl (JV (by omega) (by omega) ?_)));refine Ck (wJ (R:=R) (w:=i-u) (q:=q) (s:=⟨s.bs++[[AA 5,SS n,AA i,a]],s.ts⟩) (l:=l) (L:=Cv (env R) 87 L.n0 L.ro L.rt) hsd hst.ns (by omega) hro hn0) ?_;rintro v s1 ⟨rfl,l1,h1⟩;refine tail [i-u] l1 s1 ?_ ?_ (by simp) (h1.keep _ _ _ _ (wL _) g0)
    .simpa using hst.trans h1
    grind[cJ]
   grind[Am,cJ]
  | false=>
   grind[Bm,pk,Am,cJ]
theorem Tj:∀(l:List Ty),og l=true->∀t∈l,wK R t
 | [],_,_,h=>by cases h
 | e::l,R3,a,h=>by
  simp only[og,AE] at R3;rcases A1.1 h with h' | h'
  .rw[h']
   exact WQ e R3.1
  .exact Tj l R3.2 a h'
end
theorem wD.closed {bs:List (List AV)} {l:List Int} {x:AV} (h:wD bs l x):∃x',close bs 0 0 x=some x'/\Aq x' (AX l):=by
 rcases h with ⟨rfl,rfl⟩|⟨id,rfl,hid,hne⟩
 .exact⟨.AB [],by rfl,by simp[AX]; exact .AB _⟩
 .have hpv:∀l:List Int,Cm (l.map λn=>AA n)=some (l.map λw=>PV.sc (.int .i64 w)):=by
   intro l
   induction l with
   | nil=>rfl
   | cons w l ih=>simp[*]
  have hrb:∀l:List Int,CB 1 l.length (l.map λw=>PV.sc (.int .i64 w))=AX l:=by
   intro l
   induction l with
   | nil=>rfl
   | cons w l ih=>grind[CB,AX]
  have wN:(l.map λn=>AA n).isEmpty=false:=by simp[*]
  refine⟨.pv (.list (AX l)),?_,.list _⟩
  grind[close,Ii]
theorem Uu {t:Ty} (h:size t<2 ^ 18) (R3:ixs t=true) {x:AV} (hx:A5 t x):AL (env R) 43 [x] λr=>∃l:List Int,Aq r (AX l)/\l.Pairwise (·<·)/\(∀w,w∈l<->w∈cJ 0 t):=by
 have hc:=WQ (R:=R) t R3 x hx 0 (by omega) 1 [];have hle:=gJ t 0;generalize hn:cJ 0 t=N at *;generalize size t=z at *;obtain⟨k,n,i,ts⟩:=t;obtain⟨a,rfl,ha⟩:=hx;refine e43 (u0:=.agg [AA k,SS n,AA i,a]) (by simp[ha.close]) (AQo ?_);refine Bw (cs:=[AA k,SS n,AA i,a]) rfl (by simp[ha.ok]) (Bt (Ad (cs:=[AA k,SS n,AA i,a]) rfl rfl ?_));refine Ck (hc ⟨[[AA k,SS n,AA i,a],[.AB []]],[]⟩ (Cv (env R) 43 0 0 0) List.Pairwise.nil ⟨.AB [],rfl,.inl ⟨rfl,rfl⟩⟩ (by grind) rfl rfl) ?_;rintro v s1 ⟨rfl,l',h1⟩;obtain⟨y,hy,hw⟩:=h1.ns;obtain⟨y',Be,hr⟩:=hw.closed;refine AK ?_ (AU (off:=0) hy rfl ?_)
 .simp[*]
 .exact⟨y',Be,l',hr,h1.srt List.Pairwise.nil,λw=>by rw[h1.mem]; simp⟩
end
end Go.Proofs.YtpgfpakdnijngaaGreatDoor
