/-
  expand: terms without members; what is known of a bound's expansions; a bound is appended.
-/
import Derived.Test.YtpgfpakdnijngaaGreatDoorTD
import Derived.Test.YtpgfpakdnijngaaGreatDoorTC
import Derived.Test.YtpgfpakdnijngaaGreatDoorTB
import Derived.Test.YtpgfpakdnijngaaGreatDoorW1
set_option linter.all false
namespace Go.Proofs.YtpgfpakdnijngaaGreatDoor
open Go.Tel
attribute [local simp] Cl Bs Lf Lg AO Cw FJ wO setCells Ci FC Dn Dh Ax alive Cg GD I1 oU A8 DF BO Gx Dv Cz tM oV okB tN tP tQ tR tS eC tT tU tV tW tX tY tZ td th tj tq okF uA uB uC uD uE YE uF S0 S1 S2 S3 uG uH uI uJ rG uK uL uM uN uO Fz uP rH uQ uR uS uT uU uV uW uX uY uZ Co g0 g1 xI xL xM xF xG xC lf Y4 Y5
theorem AK2 {L:A3} {s:AL} {a:AV} {es:List Ty} {t z:Ty} {K:AV->AL->Prop} (ha:Dr 0 s.ts 25 a (AZ es)) (Eb:L.rt=0) (hl:es.length<2 ^ 38) (h:∀a' ts',Dr 0 ts' 25 a' (AZ (es++[t]))->CY a a' s.ts ts'->K a' ⟨s.bs,ts'⟩) :
  wFu L s 25 4 56 a (.AA [Ag z]) (AB es.length) (.agg ((Ag t).map .pv)) K:=by
 have hlen:=AQ es;have hall:((AZ es).all λr=>r.length==4)=true:=by grind[Gy]
 have ht:Co ((Ag t).map AV.pv)=some (Ag t):=Kr _;refine⟨⟨Ag z,rfl,Af z,DW z⟩,?_,?_⟩
 .rcases ha with rfl|⟨u,rfl,_,_⟩ <;> grind[HD,rowsOf]
 .unfold AQJ
  refine⟨DW t,?_⟩
  show wO (Co ((Ag t).map AV.pv)) _
  rw[ht];refine⟨Af t,?_⟩;have er:AZ es++[Ag t]=AZ (es++[t]):=by simp[GJ,AZ]
  rcases ha with rfl|⟨u,rfl,h1,h2⟩
  .refine⟨⟨by omega,by omega,hall⟩,?_⟩
   refine h (.own s.ts.length (AZ es++[Ag t])) _ (.inr ⟨_,by rw[er],?_,AI _⟩) ⟨by simp,λt ht _=>?_,.inr ⟨_,rfl,Ac _⟩⟩
   all_goals grind
  .refine⟨⟨by omega,by omega,h1,by omega,hall⟩,?_⟩
   have hlt:u<s.ts.length:=(BL.1 h1).1;refine h (.own u (AZ es++[Ag t])) _ (.inr ⟨u,by rw[er],?_,AI _⟩) ⟨by simp,λw hw hn=>?_,.inl rfl⟩
   .grind
   .rw[FV]
    intro hh;exact hn (by rw[<-hh]; rfl)
theorem BJ.Bl {a:AV} {es:List Ty} (h:BJ a (AZ es)):Tel.Bl a a=true:=by
 rcases h with (rfl|rfl)|⟨t,rfl⟩ <;> simp[Tel.Bl,DQ,NA]
abbrev qM (M:Nat):Int->Bool:=λi=>decide (0<=i)&&decide (i<M)
theorem wW {A4 M f v:Nat} {b:Ty} {B0:List Ty} (hv:valid b=true) (hc:Cv 0 b=true) (hl:v<B0.length):ExB A4 v M (wt b) B0 (qM M) (BF (AR A4) f b):=by
 refine⟨λB=>HJ f b B,λB r hB h hM=>?_⟩;have hBl:=hB.length_le
 have gi:∀q:Int->Bool,Eu q b=true:=λq=>by
  have:=JV (q:=q) (σ:=[]) (λx hx=>by grind) b 0 hv
  grind[ER]
 have AWj:inp b=true:=by
  have:=(Ko [] b 0 hv).2.2.2
  grind[ER]
 have hlen:=Km (BD:=AR A4) (by rfl) f b B r h;refine⟨by grind,λc N8=>?_⟩;obtain⟨h1,h2⟩:=JS f b B M (qM M) r (λi h3 h4=>by grind) (gi _) h hM c N8;obtain⟨h3,_⟩:=JS f b B M (λi=>qM M i&&!(i==(v:Int))) r (λi h3 h4=>by grind[Bool.not_eq_true']) (gi _) h hM c N8;have h5:=λinv=>Oz (q:=λi=>qM M i&&!(i==(v:Int))) (v:=v) (by simp) c inv h3
 exact⟨h1,λinv=>(h5 inv).1,(h5 true).2,h2,O5 f b B r AWj h c N8⟩
section
variable {R:RT}
theorem MN {e:Nat} {k i:Int} {n:List UInt8} {a:AV} {rows:List (List PV)} (ha:BJ a rows) {s:AL} {QR:QT} (b:Bool) (hb:(k==0||k==2)=b) (h:lO R 0 0 0 (.ptr e 0) (.ptr s.bs.length 0) (.AA []) (BB true) (AB k) (BB b) ⟨s.bs++[[AB k,SS n,AB i,a]],s.ts⟩ QR):cP R 0 0 0 (.ptr e 0) (.agg [AB k,SS n,AB i,a]) s QR:=by
 have g0:=Az s.bs [AB k,SS n,AB i,a];refine AQK (Bu (cs:=[AB k,SS n,AB i,a]) rfl (by simp[ha.ok]) (AK (AP g0) (AU (off:=0) g0 rfl (Ay ?_))));cases h0:(k==0) with
 | true=>
  simp_all
 | false=>
  simp_all
theorem ADR {e A4:Nat} {T:Ty} {k i:Int} {n:List UInt8} {ts:List Ty} (hT:ren T=.mk k n i ts) (hk:(k==0||k==2)=true) {a:AV} (ha:BJ a (AZ ts)) {s:AL} {d:AV} (gE:s.bs[e]?=some [d,AB A4]) {QR:QT} (h:∀w,Res w (bif AR A4 1 then none else some [T])->QR w ⟨s.bs++[[AB k,SS n,AB i,a]],s.ts⟩):cP R 0 0 0 (.ptr e 0) (.agg [AB k,SS n,AB i,a]) s QR:=by
 have g0:=Az s.bs [AB k,SS n,AB i,a];have hr:BV (ren T) (.agg [AB k,SS n,AB i,a]):=by rw[hT]; exact⟨a,rfl,ha⟩
 refine MN ha true hk (cQ (BH (Ae g0 rfl (FR hr ?_))));exact cO (l:=[T]) (.inl (by grind[Bz,AZ,Ao.AA])) (Av gE _) h
theorem ADS {e:Nat} {k i:Int} {n:List UInt8} {a:AV} {rows:List (List PV)} (ha:BJ a rows) {s:AL} {QR:QT} (h0:k≠0) (h2:k≠2) (h3:k≠3) (h4:k≠4) (h6:k≠6) {d:AV} {A4:Nat} (gE:s.bs[e]?=some [d,AB A4]) (h:∀w,Res w (some [])->QR w ⟨s.bs++[[AB k,SS n,AB i,a]],s.ts⟩):cP R 0 0 0 (.ptr e 0) (.agg [AB k,SS n,AB i,a]) s QR:=by
 have e0:(k==0)=false:=by grind
 have e2:(k==2)=false:=by grind
 have e3:(k==3)=false:=by grind
 have e4:(k==4)=false:=by grind
 have e6:(k==6)=false:=by grind
 refine MN ha false (by grind) (cQ (Aq (Ay ?_)));rw[e4];refine Aq (Ay ?_);rw[e3];refine Aq (Ay ?_);rw[e6];refine Aq ?_;exact cO (l:=[]) (.inl (by grind[Bz,AZ,Ao.AA])) (Av gE _) (by grind)
end
def wX (A4:Nat) (ex:Ty->List Ty->Fv) (b body:Ty) (B:List Ty):Fv:=match ex (sub B.length 0 body) (B++[b]) with
 | (none,B1)=>(none,B1)
 | (some l,B1)=>match Ca (AR A4) (B5 (AR A4) (ex b) B.length) l [] B1 with
  | (none,B2)=>(none,B2)
  | (some out,B2)=>(bif AR A4 out.length then none else some out,B2)
section
variable {R:RT}
theorem o9 (hn:Tl R) {e A4 M f:Nat} (JW:A4<2 ^ 20) (hM:M<2 ^ 37) {b DC:Ty} {σ:List Nat} (OB:valid b=true) (hcb:Cv 0 b=true) (hv:valid DC=true) (hc:Cv (1+σ.length) DC=true) (hsz:size DC<2 ^ 38) (hW:(wt DC+max 1 (cv DC)*wt b)<2 ^ 37)
  {B:List Ty} (hσ:∀x∈σ,x<B.length)
  (kS:∀(B:List Ty),(BF (AR A4) f b B).2.length<=M->∀x,BV (ren b) x->∀s,BM s->WX R e A4 44 [x] (BF (AR A4) f b B) B s)
  (ihy:(BF (AR A4) f (inst (B.length::σ) 0 DC) (B++[b])).2.length<=M->∀x,BV (ren (inst (B.length::σ) 0 DC)) x->∀s,BM s->WX R e A4 44 [x] (BF (AR A4) f (inst (B.length::σ) 0 DC) (B++[b])) (B++[b]) s)
  (oz:(wX A4 (BF (AR A4) f) b (inst σ 1 DC) B).2.length<=M) {n:List UInt8} {i:Int} {x:AV} (hx:BV (ren (.mk 6 n i [b,inst σ 1 DC])) x) {s:AL} (hs:BM s):WX R e A4 44 [x] (wX A4 (BF (AR A4) f) b (inst σ 1 DC) B) B s:=by
 intro L d hro Eb hE hd;have le:=(BL.1 hE).1;have same:s.bs.set e [d,AB A4]=s.bs:=by grind[List.set_getElem_self]
 have VK:sub B.length 0 (inst σ 1 DC)=inst (B.length::σ) 0 DC:=Ki B.length σ DC 0 hv (by omega);have AWl:ren (.mk 6 n i [b,inst σ 1 DC])=.mk 6 n i [b,ren (inst σ 1 DC)]:=by grind[HL,Bz,Mq]
 have hxc:=hx;rw[AWl] at hx;obtain⟨a,rfl,ha⟩:=hx;obtain⟨_,_,hxi⟩:=hxc.cells;generalize T7:wX A4 (BF (AR A4) f) b (inst σ 1 DC) B=o at oz ⊢;rw[wX,VK] at T7;have hpy:=HJ (BD:=AR A4) f (inst (B.length::σ) 0 DC) (B++[b]);have hall:=JS (BD:=AR A4) f (inst (B.length::σ) 0 DC) (B++[b]) M (qM M);have hpat:=O5 (BD:=AR A4) f (inst (B.length::σ) 0 DC) (B++[b]);have wY:=YX (BD:=AR A4) f (inst (B.length::σ) 0 DC) (B++[b]);have Np:=Km (BD:=AR A4) (by rfl) f (inst (B.length::σ) 0 DC) (B++[b]);obtain⟨z1,z2,z3,z4⟩:=Ko (B.length::σ) DC 0 hv;rw[z3] at hall;have gi:Eu (λi=>qM M i&&decide (i<((B++[b]).length:Nat))) (inst (B.length::σ) 0 DC)=true->True:=λ_=>trivial
 rcases hg:BF (AR A4) f (inst (B.length::σ) 0 DC) (B++[b]) with ⟨r,B1⟩
 rw[hg] at T7 ihy hpy hall hpat wY Np;simp only at T7 ihy hpy hall hpat wY Np;have hcp:∀l,B1<+:(Ca (AR A4) (B5 (AR A4) (BF (AR A4) f b) B.length) l [] B1).2:=λl=>JT (λc B=>Mp (λB=>HJ f b B) _ c B) l [] B1
 have VN:B1.length<=M:=by grind
 have hBl:B.length+1<=B1.length:=by grind
 refine m44 (by rfl) ?_;rw[hro,Eb];have g0:=Az s.bs [AB 6,SS n,AB i,a];have gE:=Av hE [AB 6,SS n,AB i,a];have hT:(s.bs++[[AB 6,SS n,AB i,a]]).take s.bs.length=s.bs.set e [d,AB A4]:=by grind
 have hok:BM ⟨s.bs++[[AB 6,SS n,AB i,a]],s.ts⟩:=BM.app (s:=s) hs (hxi _);refine MN ha false rfl (cQ (Aq (Ay (Aq (Ay (Aq (Ay (BH ?_))))))));generalize s.bs++[[AB 6,SS n,AB i,a]]=bs at g0 gE hT hok;have hZ:BV (.mk 0 [] 0 []) (.agg [(AB 0),(SS []),(AB 0),(.AA [])]):=⟨.AA [],rfl,.inl (.AA _)⟩;refine C1 (AP gE) (AK (AP gE) (AU (off:=0) gE rfl (Al (n:=B.length) (by rw[hd.A1.A9,AQ]) (C1 (AP gE) (AK (AP gE) (AU (off:=0) gE rfl (AK (AP g0) (AU (off:=3) g0 rfl ?_))))))));refine BR ha (row:=Ag b) (by omega) rfl (Af _) (by omega) (Cd (Al (n:=B.length) (by rw[hd.A1.A9,AQ]) (FR hZ ⟨⟨rfl,rfl,rfl,by decide⟩,AK2 hd rfl (by omega) λd2 J1 w1 w2=>?_⟩)));refine C1 (AP gE) (AK (AP gE) (DG gE (by simp) w1.A1.cells (AI _) w1.A1.ok (.inl (AI _)) ?_));have AWm:[d,AB A4].set 0 d2=[d2,AB A4]:=rfl;rw[AWm];have hne:e≠s.bs.length:=by omega
 have gE2:(bs.set e [d2,AB A4])[e]?=some [d2,AB A4]:=Bf gE;have rK:(bs.set e [d2,AB A4])[s.bs.length]?=some [AB 6,SS n,AB i,a]:=BS g0 hne;have Ia:(bs.set e [d2,AB A4]).take s.bs.length=s.bs.set e [d2,AB A4]:=by grind[EG]
 have Yt:BM ⟨bs.set e [d2,AB A4],J1⟩:=BM.set (s:=⟨bs,s.ts⟩) hok (by simp[Ah,Ar,w1.A1.Ar]) _;generalize bs.set e [d2,AB A4]=b2 at gE2 rK Ia Yt;refine AK (AP rK) (AU (off:=3) rK rfl (BR ha (row:=Ag (ren (inst σ 1 DC))) (by omega) rfl (Af _) (by omega) (Cd ?_)));refine AD (QK hn B.length (by omega)) ?_;rintro _ rfl;have Uu:Hp (2 ^ 40) (inst σ 1 DC)=true:=by grind[Mr,JV]
 have AWn:size (inst σ 1 DC)<2 ^ 38:=by grind[Ko]
 refine AD (RR (v:=B.length) AWn Uu (Tp σ DC 1 hv) (A7.BZ _)) ?_;rintro y hy;rw[VK] at hy;obtain⟨w,s',⟨d3,Ms,q1,q2,q3,rfl⟩,q4⟩:=ihy VN y hy.G6 ⟨b2,J1⟩ Yt (Dh (env R) 44 0 0 0) d2 rfl rfl gE2 w1;have T4:(b2.set e [d3,AB A4]).take s.bs.length=s.bs.set e [d3,AB A4]:=by simp[*,EG]
 have RV:(b2.set e [d3,AB A4])[e]?=some [d3,AB A4]:=Bf gE2;have hch:CY d d3 s.ts Ms:=w2.trans q3;have AK4:BM ⟨b2.set e [d3,AB A4],Ms⟩:=BM.set (s:=⟨b2,J1⟩) Yt (by simp[Ah,Ar,q2.A1.Ar]) _;have Le:Tel.Bl a a=true:=BJ.Bl (es:=[b,ren (inst σ 1 DC)]) ha;refine⟨_,_,q4,?_⟩
 have conds:∀{K:Prop} ,K->(Ax ⟨b2,J1⟩ (.ptr s.bs.length 0) 3 λv=>Tel.Bl v (.ptr s.bs.length (0+3))=true)/\(FC (env R) ⟨b2,J1⟩ none (.ptr s.bs.length (0+3)) λv=>Tel.Bl v a=true)/\(Bj ⟨b2,J1⟩ 4 a (AB 1) λv=>Tel.Bl v (.Cn (Ag (ren (inst σ 1 DC))) 0)=true)/\(FC (env R) ⟨b2,J1⟩ (some 4) (.Cn (Ag (ren (inst σ 1 DC))) 0) λv=>Tel.Bl v (.agg ((Ag (ren (inst σ 1 DC))).map .pv))=true)/\K:=λhK=>
  ⟨AK (AP rK) (EP _ _),AU (off:=3) rK rfl Le,BR ha (row:=Ag (ren (inst σ 1 DC))) (by omega) rfl (Af _) (by omega) (by simp[Tel.Bl,On]),Cd (MK _),hK⟩
 cases r with
 | none=>
  cases q1;simp only at T7;subst T7;exact CB rfl (CB rfl (conds (Aq (SE (Ev hs T4 (q2.A1.Ar _) (r:=none) rfl λw hw=>⟨d3,Ms,hw,q2,hch,rfl⟩)))))
 | some l=>
  obtain⟨a3,rfl,ha3⟩:=q1;refine CB rfl (CB rfl (conds (BH ?_)));simp only at T7;have SA:l.length<=A4:=by grind
  have dz:=hall l (λi h1 h2=>by grind) (JV (λx hx=>by
   simp only[AG,Dc,CD,CT,CJ]
   grind) DC 0 hv) rfl VN
  have Pb:=hpat l z4 rfl
  have hcA:∀t∈l,BU (·==(B.length:Int)) t<=cv DC:=λt ht=>by
   have h1:=wY l rfl t ht;rw[kW _ _ _ hv] at h1;exact CN (R8 (λ_ _=>rfl) t) h1
  have hvB:(B++[b])[B.length]?=some b:=by simp
  have hxb:ExB A4 B.length M (wt b) (B++[b]) (qM M) (BF (AR A4) f b):=wW OB hcb (by simp);have hrb:ren b=b:=Mq b OB;have Zz:=lG (R:=R) hn (e:=e) (S:=(wt DC+max 1 (cv DC)*wt b)) (λi hi=>by grind) JW hW hxb hvB (λB s hs' _ gH=>kS B gH _ (by rw[hrb]; exact(A7.BZ b).G6) s hs');have EA:∀o,Ca (AR A4) (B5 (AR A4) (BF (AR A4) f b) B.length) l [] B1=o->o.2.length<=M:=by grind
  obtain⟨w4,s4,⟨d4,ts4,k1,k2,k3,rfl⟩,k4⟩:=ADH (R:=R) hn (e:=e) (M:=M) (W:=wt b) (S:=(wt DC+max 1 (cv DC)*wt b)) (B0:=B++[b]) (q:=qM M) (λi hi=>by grind) JW hW (λB=>HJ f b B) SA ha3 (λt ht=>by
   obtain⟨y1,y2⟩:=dz t ht;refine⟨y1,Pb t ht,?_⟩;have y3:=hcA t ht;have y4:BU (·==(B.length:Int)) t*wt b<=max 1 (cv DC)*wt b:=CO _ (by omega);omega) Zz hpy (EA _ rfl) AK4 (Dh (env R) 44 0 0 0) d3 rfl rfl RV q2
  have hT4:((b2.set e [d3,AB A4]).set e [d4,AB A4]).take s.bs.length=s.bs.set e [d4,AB A4]:=by simp[*,EG]
  have gE4:((b2.set e [d3,AB A4]).set e [d4,AB A4])[e]?=some [d4,AB A4]:=Bf RV;have AQM:=hch.trans k3;refine⟨_,_,k4,?_⟩;rcases hk:Ca (AR A4) (B5 (AR A4) (BF (AR A4) f b) B.length) l [] B1 with ⟨ro,B2⟩
  rw[hk] at k1 k2 T7;cases ro with
  | none=>
   cases k1;simp only at T7;subst T7;exact CB rfl (CB rfl (SE (Ev hs hT4 (k2.A1.Ar _) (r:=none) rfl λw hw=>⟨d4,ts4,hw,k2,AQM,rfl⟩)))
  | some out=>
   obtain⟨a5,rfl,ha5⟩:=k1;simp only at T7;subst T7;exact CB rfl (CB rfl (cO ha5 gE4 λw hw=>Ev hs hT4 (k2.A1.Ar _) hw λw hw=>⟨d4,ts4,hw,k2,AQM,rfl⟩))
end
def ex2:List Nat->Nat
 | [_,c]=>c
 | _=>0
mutual
def lv:Ty->Nat
 | .mk k _ _ ts=>bif k==7||k==5 then 1 else bif k==3 then(lvl ts).sum else bif k==4 then(lvl ts).foldr max 0 else bif k==6 then ex2 (lvl ts) else 0
def lvl:List Ty->List Nat
 | []=>[]
 | t::l=>lv t::lvl l
end
theorem Yu:∀l:List Ty,lvl l=l.map lv
 | []=>rfl
 | t::l=>by rw[lvl,Yu l]; rfl
theorem max_mem:∀{l:List Nat} {n:Nat},n∈l->n<=l.foldr max 0
 | a::l,n,h=>by
  rw[List.foldr_cons];rcases A6.1 h with rfl|h
  .omega
  .have:=max_mem h
   omega
mutual
theorem SG (σ:List Nat):∀(t:Ty) (u:Nat),valid t=true->lv (inst σ u t)=lv t
 | .mk k n i ts,u,hv=>by
  rcases Dt σ u hv with ⟨rfl,rfl,rfl,h0,h1,⟨v,h2,h3⟩|h3⟩|⟨b5,h3⟩
  .rw[h3]
   rfl
  .rw[h3]
  .simp only[valid,AG] at hv
   rw[h3,lv,lv,cR σ ts u k 0 hv.2]
theorem cR (σ:List Nat):∀(l:List Ty) (u:Nat) (k:Int) (j:Nat),BT l=true->lvl (Db σ u k j l)=lvl l
 | [],_,_,_,_=>rfl
 | t::l,u,k,j,hv=>by
  simp only[BT,AG] at hv;rw[Db,lvl,lvl,SG σ t _ hv.1,cR σ l u k (j+1) hv.2]
end
mutual
theorem cS {m q:Int->Bool} {b:Ty} (hb:BU q b=0):∀(t:Ty) (k:Nat),BU q (KF m b t k)<=BU q t
 | .mk c n i ts,k=>by
  have ih:=Wi (m:=m) hb ts k
  grind[KF,BU]
theorem Wi {m q:Int->Bool} {b:Ty} (hb:BU q b=0):∀(l:List Ty) (k:Nat),CX q (Jg m b l k)<=CX q l
 | [],_=>Ac _
 | t::l,k=>by
  rw[Jg];cases decide (k<BU m t) with
  | true=>
   have:=cS (m:=m) hb t k
   grind[CX]
  | false=>
   have:=Wi (m:=m) hb l (k-BU m t)
   grind[CX]
end
section
variable {BD:Nat->Bool}
theorem Wj {ex:List Ty->Fv} {q:Int->Bool} {v:Nat} (hx:∀B,B.length<=(ex B).2.length) {lo M:Nat} (hr:∀B r,lo<=B.length->(ex B).1=some r->(ex B).2.length<=M->∀c∈r,BU q c=0) :
  ∀(f:Nat) (t:Ty) (B r:List Ty),lo<=B.length->(CI BD ex v f t B).1=some r->(CI BD ex v f t B).2.length<=M->∀p∈r,BU q p<=BU q t
 | 0,t,B,r,_,h,_=>by grind[CI]
 | f+1,t,B,r,hlo,h,hM=>by
  have h1:=hx B;have h2:=hr B;rw[CI] at h hM;cases ho:DY v false t with
  | false=>grind
  | true=>
   rw[ho] at h hM;simp only[AN] at h hM;rcases he:ex B with ⟨_|cs,B1⟩
   .grind
   .rw[he] at h hM h1 h2
    simp only at h hM h1 h2;have h3:=IC (BD:=BD) (g:=λc B=>CI BD ex v f (KF (·==(v:Int)) c t 0) B) (λc B=>Hl hx v f _ B) cs [] B1;have h4:=h2 cs hlo rfl (by omega);refine JQ (λc B=>Hl hx v f _ B) (lo:=lo) cs [] B1 r ?_ (by omega) h hM (by simp);intro c hc B' r' ACh h' gH p hp;exact CN (Wj hx hr f _ B' r' ACh h' gH p hp) (cS (h4 c hc) t 0)
theorem cT:∀(f:Nat) (t:Ty) (σ:List Nat) (B:List Ty) (M v:Nat) (r:List Ty),valid t=true->Cv σ.length t=true->v<B.length->(∀x∈σ,x<B.length) ->
  (BF BD f (inst σ 0 t) B).1=some r->(BF BD f (inst σ 0 t) B).2.length<=M->∀p∈r,BU (·==(v:Int)) p<=lv t
 | 0,_,_,_,_,_,_,_,_,_,_,h,_=>by cases h
 | f+1,.mk k n i ts,σ,B,M,v,r,hv,hc,hvB,hσ,h,hM=>by
  have ih:=cT f;have hf:=λt B=>JR (BD:=BD) f t B
  have Pz:=hv;simp only[valid,AG] at hv
  have part:∀(hk:k≠6) (lD:k≠5),∀t∈ts.map (inst σ 0),∀(B' r:List Ty),B.length<=B'.length->(BF BD f t B').1=some r->(BF BD f t B').2.length<=M->∀p∈r,BU (·==(v:Int)) p<=lv t:=by
   intro hk lD t ht B' r hl h hM;obtain⟨t0,ZU,rfl⟩:=C3.1 ht;rw[SG σ t0 0 (Cb hv.2 ZU)];exact ih t0 σ B' M v r (Cb hv.2 ZU) (Hj hk (D9 hc lD) ZU) (by omega) (λx hx=>F0 (hσ x hx) hl) h hM
  have emap:BT ts=true->(ts.map (inst σ 0)).map lv=ts.map lv:=by grind[List.map_congr_left,SG,Cb]
  rcases Dt σ 0 Pz with ⟨rfl,rfl,rfl,_,_,⟨x,h2,h3⟩|h3⟩|⟨b5,h3⟩
  .rw[h3,BF] at h
   have:(7:Int)==7:=rfl;simp only[show((7:Int)==7)=true from rfl,HB,AN] at h;cases hb:BD 1 with
   | true=>grind
   | false=>
    rw[hb] at h;cases h;intro p hp;rw[E5.1 hp,BU,lv];simp only[show((7:Int)==7)=true from rfl,AN,show((5:Int)==7||(5:Int)==5)=true from rfl];cases (x:Int)==(v:Int) <;> simp
  .rw[h3,BF] at h
   simp only[show((5:Int)==0||(5:Int)==2||(5:Int)==7)=false from rfl,show((5:Int)==4)=false from rfl,show((5:Int)==3)=false from rfl,show((5:Int)==6)=false from rfl,AH] at h;cases hb:BD 0 with
   | true=>grind
   | false=>grind
  .rw[h3,BF] at h hM
   cases h0:k==0||k==2||k==7 with
   | true=>
    grind[JO,BU]
   | false=>
    rw[h0] at h hM;simp only[AH] at h hM;cases h4:k==4 with
    | true=>
     have hk:k=4:=by grind
     subst hk;rw[h4,Et (k:=4) (by decide)] at h hM;simp only[AN] at h hM
     have key:=MI hf (P:=λp=>BU (·==(v:Int)) p<=lv (.mk 4 n i ts)) (lo:=B.length) (M:=M) (ts.map (inst σ 0)) [] true B (λt hm B' r hl h hM p hp=>CN (part (by decide) (by decide) t hm B' r hl h hM p hp) (by
      have h5:lv t∈(ts.map (inst σ 0)).map lv:=Eh hm;rw[emap hv.2] at h5;simp[*,lv,Yu,max_mem])) (Ac _)
     grind
    | false=>
     rw[h4] at h hM;simp only[AH] at h hM;cases R2:k==3 with
     | true=>
      have hk:k=3:=by grind
      subst hk;rw[R2,Et (k:=3) (by decide)] at h hM;simp only[AN] at h hM;have key:=λr=>O2 hf (P:=λw p=>BU (·==(v:Int)) p<=w) (w:=lv) (lo:=B.length) (M:=M) (ts.map (inst σ 0)) [] [] B r (part (by decide) (by decide)) (Ac _)
      rcases hs:Er (BF BD f) (ts.map (inst σ 0)) [] B with ⟨_|ls,B1⟩
      .grind
      .rw[hs] at h hM key
       simp only at h hM key;cases he:ls.any List.isEmpty with
       | true=>
        grind
       | false=>
        rw[he] at h hM;simp only[AH] at h hM;cases s9:Dq BD ls [[]] with
        | none=>grind
        | some all=>
         rw[s9] at h hM;simp only at h hM;cases hb:BD all.length with
         | true=>grind
         | false=>
          rw[hb] at h;cases h;intro p hp;obtain⟨a,ha,rfl⟩:=C3.1 hp;have h5:=QH (q:=(·==(v:Int))) ls _ _ all 0 (key ls rfl hM Ab) s9 (by simp[CX]) a ha
          grind[BU,lv,Yu]
     | false=>
      rw[R2] at h hM;simp only[AH] at h hM;cases j5:k==6 with
      | false=>
       grind
      | true=>
       have:k=6:=by grind
       subst this;rcases NL hv.1 with h' | h' | h' | h' | h' | h' | ⟨_,rfl,rfl,b,body,rfl,hcb⟩
       iterate 6 exact absurd h' (by simp)
       simp only[BT,AG] at hv;obtain⟨_,OB,cI,_⟩:=hv;have eb:inst σ (0+Ec 6 0) b=b:=Iu σ b 0 OB hcb
       have hcy:Cv (1+σ.length) body=true:=by
        have:=D9 hc (by decide);simp only[D8,AG] at this;have h2:=this.2.1;rw[Md];exact h2
       have VK:sub B.length 0 (inst σ 1 body)=inst (B.length::σ) 0 body:=Ki B.length σ body 0 cI (by omega);have e1:inst σ (0+Ec 6 (0+1)) body=inst σ 1 body:=rfl;rw[j5] at h hM;simp only[AN,Db,eb,eD] at h hM;rw[e1,VK] at h hM;have hfl:=JR (BD:=BD) f b
       have hbc:∀B' r,B.length<B'.length->(BF BD f b B').1=some r->(BF BD f b B').2.length<=M->∀c∈r,BU (·==(v:Int)) c=0:=by
        intro B' r hl h hM c N8
        have gi:∀q:Int->Bool,Eu q b=true:=λq=>by
         have:=JV (q:=q) (σ:=[]) (λx hx=>by grind) b 0 OB
         grind[ER]
        have h5:=JS f b B' M (λi=>!(i==(v:Int))) r (λi h3 h4=>by grind) (gi _) h hM c N8;exact(Oz (q:=λi=>!(i==(v:Int))) (v:=v) (by simp) c true h5.1).2
       have hy:=λl=>ih body (B.length::σ) (B++[b]) M v l cI (by grind) (by grind) (λx hx=>by
        rw[CD,CT,CJ]
        grind)
       have AFU:=JR (BD:=BD) f (inst (B.length::σ) 0 body) (B++[b]);generalize BF BD f (inst (B.length::σ) 0 body) (B++[b])=o at h hM hy AFU;rcases o with ⟨_|l,B1⟩
       .cases h
       .simp only at h hM hy AFU
        have h6:=IC (BD:=BD) (g:=B5 BD (BF BD f b) B.length) (λa B'=>I3 hfl B.length a B') l [] B1;have key:=λr=>JQ (BD:=BD) (g:=B5 BD (BF BD f b) B.length) (λa B'=>I3 hfl B.length a B') (P:=λp=>BU (·==(v:Int)) p<=lv body) (lo:=B.length+1) (M:=M) l [] B1 r
        generalize Ca BD (B5 BD (BF BD f b) B.length) l [] B1=o2 at h hM h6 key;rcases o2 with ⟨_|out,B2⟩
        .cases h
        .simp only at h hM h6 key
         cases hb:BD out.length with
         | true=>grind
         | false=>
          rw[hb] at h;cases h;have e2:lv (.mk 6 [] 0 [b,body])=lv body:=rfl;rw[e2];have SA:=hy l rfl (by omega);refine key r ?_ (by grind) rfl hM (by simp);intro a ha B' r' hlo h5 h7 p hp;have ha1:=SA a ha;rw[B5] at h5 h7;cases ho:DY B.length true a with
          | true=>
           grind
          | false=>
           rw[ho] at h5 h7;exact CN (Wj hfl (lo:=B.length+1) (M:=M) (λB' r hl=>hbc B' r (by omega)) _ a B' r' hlo h5 h7 p hp) ha1
end
section
variable {BD:Nat->Bool}
theorem T8 {α:Type} {g:α->List Ty->Fv} (hg:∀a B,(g a B).2=B):∀(l:List α) (out B:List Ty),(Ca BD g l out B).2=B
 | [],_,_=>rfl
 | a::l,out,B=>by
  have h:=hg a B;rw[Ca];rcases hr:g a B with ⟨_|r,B1⟩
  .grind
  .rw[hr] at h
   simp only at h ⊢;subst h;cases BD (out++r).length with
   | true=>rfl
   | false=>exact T8 hg l _ _
theorem wZ {ex:List Ty->Fv} {a v:Nat} (ha:∀B,(ex B).2.length<=B.length+a) (f:Nat) (hf:f<=1) (t:Ty) (B:List Ty):(CI BD ex v f t B).2.length<=B.length+a:=by
 rcases f with _|f
 all_goals grind[CI,T8]
theorem cU {ex:List Ty->Fv} {a v:Nat} (ha:∀B,(ex B).2.length<=B.length+a) (hc:∀B r,(ex B).1=some r->r.length<=1):∀(f:Nat) (t:Ty) (B:List Ty),(CI BD ex v f t B).2.length<=B.length+a*f
 | 0,t,B=>by grind[CI]
 | f+1,t,B=>by
  have h:=ha B;have h2:=hc B;rw[Ro,CI];cases DY v false t with
  | false=>simp
  | true=>
   simp only[AN];rcases hr:ex B with ⟨_|cs,B1⟩
   .grind
   .rw[hr] at h h2
    simp only at h h2 ⊢;have h3:=h2 cs rfl;rcases cs with _|⟨x,_|⟨y,cs⟩⟩
    .grind[Ca]
    .have ih:=cU (v:=v) ha hc f (KF (·==(v:Int)) x t 0) B1
     rw[Ca];rcases P0:CI BD ex v f (KF (·==(v:Int)) x t 0) B1 with ⟨_|r,B2⟩
     .grind
     .rw[P0] at ih
      simp only at ih ⊢;cases BD ([]++r).length with
      | true=>grind
      | false=>grind[Ca]
    grind
end
theorem Wk {α:Type} {A4 a q K:Nat} {B0:List Ty} {g:α->List Ty->Fv} (hpre:∀x B,B<+:(g x B).2):∀(l:List α) (out B:List Ty),(∀x∈l,∀B,B0<+:B->(∀r,(g x B).1=some r->r.length=K/\r.length<=A4+1/\(g x B).2.length+a<=B.length+a*K)/\((g x B).1=none->(g x B).2.length<=B.length+q))->B0<+:B->out.length<=A4 ->
  (∀r,(Ca (AR A4) g l out B).1=some r->r.length=out.length+l.length*K/\(Ca (AR A4) g l out B).2.length+a*l.length<=B.length+a*(K*l.length)) /\
  ((Ca (AR A4) g l out B).1=none->∃m,out.length+m*K<=A4/\((Ca (AR A4) g l out B).2.length<=B.length+a*(m*K)+q\/(K<=A4+1/\(Ca (AR A4) g l out B).2.length<=B.length+a*(m*K)+a*K)))
 | [],out,B,_,_,_=>by grind[Ca]
 | x::l,out,B,hg,hB,ho=>by
  have h1:=hg x (by simp) B hB;have hp:=hpre x B;rw[Ca];rcases hr:g x B with ⟨_|r,B1⟩
  .rw[hr] at h1
   refine⟨λr h=>(by cases h),λ_=>⟨0,by omega,.inl ?_⟩⟩
   grind
  .rw[hr] at h1 hp
   obtain⟨e1,e2,e3⟩:=h1.1 r rfl;simp only at e3 hp ⊢;cases hb:AR A4 (out++r).length with
   | true=>
    refine⟨λr h=>(by cases h),λ_=>⟨0,by omega,.inr ⟨by omega,?_⟩⟩⟩
    grind
   | false=>
    simp only[AH];have hb':out.length+r.length<=A4:=by grind
    obtain⟨i1,i2⟩:=Wk hpre l (out++r) B1 (λy hy=>hg y (by grind)) (hB.trans hp) (by grind);refine⟨λs hs=>?_,λhs=>?_⟩
    .grind[Nat.mul_add]
    .obtain⟨m,j1,j2⟩:=i2 hs
     rw[CD] at j1;refine⟨m+1,by grind,?_⟩
     grind
def qF (f:Nat):Nat:=f+min f 6*66
theorem Wl {c f:Nat} (hc:2<=c) (h:c ^ f<=33):f<=5:=by
 rcases FX f 6 with h1|h1
 .omega
 .have h2:c ^ 6<=c ^ f:=Nat.pow_le_pow_right (by omega) h1
  have h3:2 ^ 6<=c ^ 6:=Nat.pow_le_pow_left hc 6;omega
structure ExC (v a c:Nat) (B0:List Ty) (ex:List Ty->Fv):Prop where
 pre:∀B,B<+:(ex B).2
 len:∀B,(ex B).2.length<=B.length+a
 res:∀B r,B0<+:B->(ex B).1=some r->r.length=c/\∀x∈r,BU (·==(v:Int)) x=0/\DY v true x=false/\pat x=true
theorem Wm {ex:List Ty->Fv} {v a c:Nat} {B0:List Ty} (hx:ExC v a c B0 ex) (hc:2<=c):∀(f:Nat) (t:Ty) (B:List Ty),BU (·==(v:Int)) t=f->DY v true t=false->pat t=true->B0<+:B ->
  (∀r,(CI (AR 32) ex v f t B).1=some r->r.length=c ^ f/\r.length<=32+1/\(CI (AR 32) ex v f t B).2.length+a<=B.length+a*c ^ f)/\((CI (AR 32) ex v f t B).1=none->(CI (AR 32) ex v f t B).2.length<=B.length+a*qF f)
 | 0,t,B,_,_,_,_=>by grind[CI]
 | f+1,t,B,TU,hoc,hpt,hB=>by
  have Np:=λr=>QV (A4:=32) (ex:=ex) (v:=v) (f+1) t B r
  have h1:=hx.len B;have h2:=hx.res B;have hp:=hx.pre B;have ho:DY v false t=true:=by grind[YY]
  rw[CI,ho] at Np ⊢;simp only[AN] at Np ⊢
  have hq:a*qF f+a<=a*qF (f+1):=by
   rw[<-Ro];refine Ei _ ?_
   grind[qF]
  rcases hr:ex B with ⟨_|cs,B1⟩
  .grind
  .rw[hr] at h1 h2 hp Np
   simp only at h1 h2 hp Np ⊢;obtain⟨Bi,hcs⟩:=h2 cs hB rfl
   obtain⟨i1,i2⟩:=Wk (A4:=32) (a:=a) (q:=a*qF f) (K:=c ^ f) (B0:=B0) (g:=λx B=>CI (AR 32) ex v f (KF (·==(v:Int)) x t 0) B) (λx B=>Ho hx.pre v f _ B) cs [] B1 (by
    intro x hxm B' hB';obtain⟨x1,x2,x3⟩:=hcs x hxm;obtain⟨r1,r2⟩:=R7 (m:=(·==(v:Int))) (b:=x) t 0 (by omega);exact Wm hx hc f _ B' (by omega) (YZ x2 t 0 hoc) (R9 x3 t 0 hpt) hB') (hB.trans hp) (by simp)
   refine⟨λr h=>?_,λh=>?_⟩
   .obtain⟨j1,j2⟩:=i1 r h
    refine⟨?_,Np r h,?_⟩
    .rw[j1,Bi,Rq,CJ,CP,Nat.mul_comm]
    .have e1:a*(c ^ f*cs.length)=a*c ^ (f+1):=by rw[Bi,Rq]
     have e2:a*2<=a*cs.length:=Ei _ (by omega);omega
   .obtain⟨m,j1,j2⟩:=i2 h
    rw[CJ,CP] at j1;have e1:a*(m*c ^ f)<=a*32:=Ei _ j1;rcases Nat.eq_zero_or_pos m with rfl|hm
    .rcases j2 with j2|⟨j2,j3⟩
     .omega
     .have hf5:=Wl hc j2
      have e2:a*c ^ f<=a*33:=Ei _ j2;have e3:a*34<=a*qF (f+1):=Ei _ (by grind[qF]);omega
    .have hk:c ^ f<=33:=by
      have:1*c ^ f<=m*c ^ f:=CO _ hm;omega
     have hf5:=Wl hc hk;have e3:a*(33+qF f+33)<=a*qF (f+1):=Ei _ (by grind[qF]);rw[Rr,Rr] at e3;have e2:a*c ^ f<=a*33:=Ei _ hk;omega
def Wn:Ty->Bool
 | .mk k _ _ _=>!(k==3||k==4||k==6)
def nF (t:Ty):Nat:=bif Wn t then 1 else 33*lv t+500
def ex9:List Nat->List Nat->Nat
 | [b,c],[_,f]=>1+c+f*b
 | _,_=>0
mutual
def nb:Ty->Nat
 | .mk k _ _ ts=>bif k==6 then ex9 (nbl ts) (ts.map nF) else bif k==3||k==4 then(nbl ts).sum else 0
def nbl:List Ty->List Nat
 | []=>[]
 | t::l=>nb t::nbl l
end
theorem T9:∀l:List Ty,nbl l=l.map nb
 | []=>rfl
 | t::l=>by rw[nbl,T9 l]; rfl
theorem Wo {ex:List Ty->Fv} {v a c n:Nat} {B0:List Ty} (hx:ExC v a c B0 ex) (hc:2<=c):∀(l out B:List Ty),(∀t∈l,pat t=true/\BU (·==(v:Int)) t<=n)->B0<+:B->out.length<=32 ->
  (∀r,(Ca (AR 32) (B5 (AR 32) ex v) l out B).1=some r->(Ca (AR 32) (B5 (AR 32) ex v) l out B).2.length+a*out.length<=B.length+a*r.length/\r.length<=32) /\
  ((Ca (AR 32) (B5 (AR 32) ex v) l out B).1=none->(Ca (AR 32) (B5 (AR 32) ex v) l out B).2.length+a*out.length<=B.length+a*(n+461))
 | [],out,B,_,_,ho=>by grind[Ca]
 | t::l,out,B,hl,hB,ho=>by
  obtain⟨t1,t2⟩:=hl t (by simp);have hp:=Mp (BD:=AR 32) hx.pre v t B;have h33:a*out.length<=a*32:=Ei _ ho
  have key:(∀r,(B5 (AR 32) ex v t B).1=some r->r.length<=33/\(B5 (AR 32) ex v t B).2.length<=B.length+a*r.length)/\((B5 (AR 32) ex v t B).1=none->(B5 (AR 32) ex v t B).2.length<=B.length+a*(n+396)):=by
   rw[B5];cases hoc:DY v true t with
   | true=>
    simp
   | false=>
    simp only[AH];obtain⟨f1,f2⟩:=Wm hx hc _ t B rfl hoc t1 hB;refine⟨λr h=>?_,λh=>?_⟩
    .grind
    .have:=f2 h
     have e:a*qF (BU (·==(v:Int)) t)<=a*(n+396):=Ei _ (by grind[qF]);omega
  rw[Rr] at key ⊢;rw[Ca];rcases hr:B5 (AR 32) ex v t B with ⟨_|r,B1⟩
  .grind
  .rw[hr] at key hp
   obtain⟨k1,k2⟩:=key.1 r rfl;simp only at k2 hp ⊢;have h34:a*r.length<=a*33:=Ei _ k1;cases hb:AR 32 (out++r).length with
   | true=>
    grind
   | false=>
    simp only[AH];obtain⟨i1,i2⟩:=Wo hx hc l (out++r) B1 (λy hy=>hl y (by grind)) (hB.trans hp) (by grind);rw[CD,Rr] at i1 i2
    grind
theorem cV {ex:List Ty->Fv} {v a n:Nat} (ha:∀B,(ex B).2.length<=B.length+a) (hc:∀B r,(ex B).1=some r->r.length<=1):∀(l out B:List Ty),(∀t∈l,BU (·==(v:Int)) t<=n) ->
  (Ca (AR 32) (B5 (AR 32) ex v) l out B).2.length<=B.length+a*n*l.length
 | [],out,B,_=>by grind[Ca]
 | t::l,out,B,hl=>by
  have ht:=hl t (by simp)
  have key:(B5 (AR 32) ex v t B).2.length<=B.length+a*n:=by
   rw[B5];cases DY v true t with
   | true=>simp
   | false=>
    have:=cU (BD:=AR 32) (v:=v) ha hc (BU (·==(v:Int)) t) t B;have e:a*BU (·==(v:Int)) t<=a*n:=Ei _ ht
    grind
  rw[Ca,CT,Ro];rcases hr:B5 (AR 32) ex v t B with ⟨_|r,B1⟩
  .grind
  .rw[hr] at key
   simp only at key ⊢;cases AR 32 (out++r).length with
   | true=>grind
   | false=>
    have:=cV ha hc l (out++r) B1 (λy hy=>hl y (by grind))
    grind
theorem we {ex:List Ty->Fv} {v a:Nat} (ha:∀B,(ex B).2.length<=B.length+a) {l:List Ty} (hl:l.length<=1) (hc:∀t∈l,BU (·==(v:Int)) t<=1) (B:List Ty):(Ca (AR 32) (B5 (AR 32) ex v) l [] B).2.length<=B.length+a:=by
 rcases l with _|⟨t,_|⟨u,l⟩⟩
 .grind[Ca]
 .have ht:=hc t (by simp)
  have key:(B5 (AR 32) ex v t B).2.length<=B.length+a:=by
   rw[B5];cases DY v true t with
   | true=>simp
   | false=>simp[*,wZ]
  grind[Ca]
 grind
theorem pE {b:Ty} {f:Nat} (hv:valid b=true) (hc:Cv 0 b=true) (hs:Cj (bw b)):(∀B,(BF (AR 32) f b B).1=none)\/∃c,∀B r,(BF (AR 32) f b B).1=some r->r.length=c:=by
 have h:=gG (BD:=AR 32) rfl rfl f b [] hv hc HC hs
 have h2:∀B,Li (λB' b p=>∃φ,Rl false 0 B' B.length B'.length [] b p φ) B (DS (AR 32) f b) (BF (AR 32) f b B):=by
  intro B;have:=h B (λx hx=>by grind)
  grind[ER]
 cases hb:DS (AR 32) f b with
 | none=>
  left
  intro B;have:=h2 B;rw[hb] at this;rcases he:BF (AR 32) f b B with ⟨_|r,B1⟩
  .rfl
  .rw[he] at this
   exact this.elim
 | some l=>
  right
  refine⟨l.length,λB r hr=>?_⟩;have:=h2 B;rw[hb] at this;rcases he:BF (AR 32) f b B with ⟨_|r',B1⟩
  .grind
  .rw[he] at hr this
   cases hr;exact this.2.length.symm
theorem Yv {ex:Ty->List Ty->Fv} {n:Ty->Nat} {lo:Nat}:∀(l out:List Ty) (ok:Bool) (B:List Ty),(∀t∈l,∀B',lo<=B'.length->B'.length<=(ex t B').2.length/\(ex t B').2.length<=B'.length+n t)->lo<=B.length->(G4 ex l out ok B).2.length<=B.length+(l.map n).sum
 | [],_,_,B,_,_=>Kz _ _
 | t::l,out,ok,B,h,hl=>by
  obtain⟨h0,h1⟩:=h t (by simp) B hl;rw[G4,CE,Mb];rcases hr:ex t B with ⟨_|r,B1⟩
  .rw[hr] at h1 h0
   simp only at h1 h0 ⊢;have:=Yv l out false B1 (λa ha=>h a (by grind)) (by omega);omega
  .rw[hr] at h1 h0
   simp only at h1 h0 ⊢;have:=Yv l (out++r) ok B1 (λa ha=>h a (by grind)) (by omega);omega
theorem lQ {ex:Ty->List Ty->Fv} {n:Ty->Nat} {lo:Nat}:∀(l:List Ty) (out:List (List Ty)) (B:List Ty),(∀t∈l,∀B',lo<=B'.length->B'.length<=(ex t B').2.length/\(ex t B').2.length<=B'.length+n t)->lo<=B.length->(Er ex l out B).2.length<=B.length+(l.map n).sum
 | [],_,B,_,_=>Kz _ _
 | t::l,out,B,h,hl=>by
  obtain⟨h0,h1⟩:=h t (by simp) B hl;rw[Er,CE,Mb];rcases hr:ex t B with ⟨_|r,B1⟩
  .grind
  .rw[hr] at h1 h0
   simp only at h1 h0 ⊢;have:=lQ l (out++[r]) B1 (λa ha=>h a (by grind)) (by omega);omega
theorem DT {a b:Nat} (h:Cj b) (hl:a<=b):Cj a:=by grind[Cj]
theorem ADT (σ:List Nat) (t:Ty) (u:Nat) (hv:valid t=true):nF (inst σ u t)=nF t:=by
 have h:=SG σ t u hv
 have:Wn (inst σ u t)=Wn t:=by
  obtain⟨k,n,i,ts⟩:=t;rcases Dt σ u hv with ⟨rfl,rfl,rfl,h0,h1,⟨v,h2,h3⟩|h3⟩|⟨b5,h3⟩ <;> rw[h3] <;> rfl
 grind[nF]
mutual
theorem Yw (σ:List Nat):∀(t:Ty) (u:Nat),valid t=true->nb (inst σ u t)=nb t
 | .mk k n i ts,u,hv=>by
  rcases Dt σ u hv with ⟨rfl,rfl,rfl,h0,h1,⟨v,h2,h3⟩|h3⟩|⟨b5,h3⟩
  .rw[h3]
   rfl
  .rw[h3]
  .simp only[valid,AG] at hv
   obtain⟨e1,e2⟩:=cW σ ts u k 0 hv.2
   grind[nb]
theorem cW (σ:List Nat):∀(l:List Ty) (u:Nat) (k:Int) (j:Nat),BT l=true->nbl (Db σ u k j l)=nbl l/\(Db σ u k j l).map nF=l.map nF
 | [],_,_,_,_=>⟨rfl,rfl⟩
 | t::l,u,k,j,hv=>by
  simp only[BT,AG] at hv;obtain⟨e1,e2⟩:=cW σ l u k (j+1) hv.2;rw[Db,nbl,nbl,Yw σ t _ hv.1,e1,CE,CE,ADT σ t _ hv.1,e2];simp
end
theorem ADU {f:Nat} {b:Ty} {v:Nat} {B0:List Ty} (hv:valid b=true) (hc:Cv 0 b=true) (hs:Cj (bw b)) (hvB:v<B0.length) (ha:∀B,(BF (AR 32) f b B).2.length<=B.length+nb b) {l:List Ty} (hl:l.length<=32) {n:Nat} (hn:∀t∈l,pat t=true/\BU (·==(v:Int)) t<=n) {B:List Ty} (hB:B0<+:B) :
  (Ca (AR 32) (B5 (AR 32) (BF (AR 32) f b) v) l [] B).2.length<=B.length+(33*n+500)*nb b:=by
 have few:(∀B r,(BF (AR 32) f b B).1=some r->r.length<=1)->(Ca (AR 32) (B5 (AR 32) (BF (AR 32) f b) v) l [] B).2.length<=B.length+(33*n+500)*nb b:=by
  intro h;have h1:=cV (v:=v) (n:=n) ha h l [] B (λt ht=>(hn t ht).2);have h2:nb b*n*l.length<=nb b*n*32:=Ei _ hl
  grind
 rcases pE (f:=f) hv hc hs with h|⟨c,h⟩
 .grind
 .rcases FX c 2 with h1|h1
  .grind
  .have hx:ExC v (nb b) c B0 (BF (AR 32) f b):=by
    refine⟨λB=>HJ f b B,ha,λB r hB hr=>⟨h B r hr,λx hx=>?_⟩⟩;obtain⟨_,h2⟩:=(wW (A4:=32) (M:=(BF (AR 32) f b B).2.length) (f:=f) hv hc hvB).res B r hB hr (Ac _)
    grind
   obtain⟨i1,i2⟩:=Wo hx h1 (n:=n) l [] B hn hB (by simp);simp only[CJ,Nat.mul_zero,Gc] at i1 i2;rw[Nat.mul_comm (33*n+500)];cases ho:(Ca (AR 32) (B5 (AR 32) (BF (AR 32) f b) v) l [] B).1 with
   | none=>
    grind
   | some r=>
    obtain⟨j1,j2⟩:=i1 r ho
    grind[Nat.mul_le_mul_left,Nat.le_trans]
theorem ADV:∀(f:Nat) (t:Ty) (σ:List Nat) (B:List Ty),valid t=true->Cv σ.length t=true->Cj (bw t)->(∀x∈σ,x<B.length)->(BF (AR 32) f (inst σ 0 t) B).2.length<=B.length+nb t:=by
 intro f
 induction f with
 | zero=>
  grind[BF]
 | succ f ih=>
  intro t σ B hv hc hs hσ;obtain⟨k,n,i,ts⟩:=t;have hf:=λt B=>JR (BD:=AR 32) f t B
  have Pz:=hv;simp only[valid,AG] at hv
  have part:∀(hk:k≠6) (lD:k≠5),(∀t∈ts,Cj (bw t))->∀t∈ts.map (inst σ 0),∀B':List Ty,B.length<=B'.length->B'.length<=(BF (AR 32) f t B').2.length/\(BF (AR 32) f t B').2.length<=B'.length+nb t:=by
   intro hk lD ZT t ht B' hl;obtain⟨t0,ZU,rfl⟩:=C3.1 ht;rw[Yw σ t0 0 (Cb hv.2 ZU)];exact⟨hf _ B',ih t0 σ B' (Cb hv.2 ZU) (Hj hk (D9 hc lD) ZU) (ZT t0 ZU) (λx hx=>F0 (hσ x hx) hl)⟩
  have emap:(ts.map (inst σ 0)).map nb=ts.map nb:=by grind[List.map_congr_left,Yw,Cb]
  rcases Dt σ 0 Pz with ⟨rfl,rfl,rfl,_,_,⟨x,h2,h3⟩|h3⟩|⟨b5,h3⟩
  .grind[BF]
  .grind[BF]
  .rw[h3,BF]
   cases h0:k==0||k==2||k==7 with
   | true=>simp
   | false=>
    simp only[AH];cases h4:k==4 with
    | true=>
     have hk:k=4:=by grind
     subst hk;have ZT:∀t∈ts,Cj (bw t):=λt ht=>DT hs (by simp[*,bw,Gi,D0,Eh])
     have:=Yv (ex:=BF (AR 32) f) (n:=nb) (lo:=B.length) (ts.map (inst σ 0)) [] true B (part (by decide) (by decide) ZT) (Ac _)
     grind[Et,nb,T9]
    | false=>
     simp only[AH];cases R2:k==3 with
     | true=>
      have hk:k=3:=by grind
      subst hk;have ZT:∀t∈ts,Cj (bw t):=λt ht=>DT hs (by simp[*,bw,Gi,D0,Eh])
      have:=lQ (ex:=BF (AR 32) f) (n:=nb) (lo:=B.length) (ts.map (inst σ 0)) [] B (part (by decide) (by decide) ZT) (Ac _);rw[emap] at this;rw[Et (k:=3) (by decide),nb,T9];simp only[AN];generalize Er (BF (AR 32) f) (ts.map (inst σ 0)) [] B=o at this ⊢;rcases o with ⟨_|ls,B1⟩
      .grind
      .simp only
       cases ls.any List.isEmpty with
       | true=>grind
       | false=>
        grind
     | false=>
      simp only[AH];cases j5:k==6 with
      | false=>simp
      | true=>
       have:k=6:=by grind
       subst this;rcases NL hv.1 with h' | h' | h' | h' | h' | h' | ⟨_,rfl,rfl,b,body,rfl,hcb⟩
       iterate 6 exact absurd h' (by simp)
       simp only[BT,AG] at hv;obtain⟨_,OB,cI,_⟩:=hv;have eb:inst σ (0+Ec 6 0) b=b:=Iu σ b 0 OB hcb
       have hcy:Cv (1+σ.length) body=true:=by
        have:=D9 hc (by decide);simp only[D8,AG] at this;have h2:=this.2.1;rw[Md];exact h2
       have VK:sub B.length 0 (inst σ 1 body)=inst (B.length::σ) 0 body:=Ki B.length σ body 0 cI (by omega);have e1:inst σ (0+Ec 6 (0+1)) body=inst σ 1 body:=rfl;simp only[AN,Db,eb,eD];rw[e1,VK];have hbw:bw (.mk 6 [] 0 [b,body])=bw body+1+(cv body+1)*bw b:=rfl;have Zz:Cj (bw b):=DT hs (by grind);have hsy:Cj (bw body):=DT hs (by omega)
       have hab:∀B',(BF (AR 32) f b B').2.length<=B'.length+nb b:=λB'=>by
        have:=ih b [] B' OB hcb Zz (λx hx=>by grind)
        grind[ER]
       have hσ':∀x∈B.length::σ,x<(B++[b]).length:=λx hx=>by grind
       have AQP:Cv (B.length::σ).length body=true:=by grind
       have hay:=ih body (B.length::σ) (B++[b]) cI AQP hsy hσ';rw[CD,CT,CJ] at hay;have enb:nb (.mk 6 [] 0 [b,body])=1+nb body+nF body*nb b:=rfl;rw[enb];have hpy:=HJ (BD:=AR 32) f (inst (B.length::σ) 0 body) (B++[b]);have hcn:=λM l=>cT (BD:=AR 32) f body (B.length::σ) (B++[b]) M B.length l cI AQP (by simp) hσ'
       have hpt:=λl=>O5 (BD:=AR 32) f (inst (B.length::σ) 0 body) (B++[b]) l (Ko (B.length::σ) body 0 cI).2.2.2
       have hbg:=λl=>Km (BD:=AR 32) (by rfl) f (inst (B.length::σ) 0 body) (B++[b]) l
       have hlf:Wn body=true->∀l,(BF (AR 32) f (inst (B.length::σ) 0 body) (B++[b])).1=some l->l.length<=1/\lv body<=1:=by
        intro hl l hr;obtain⟨k',n',i',ts'⟩:=body;simp only[Wn,K0,Hu] at hl;obtain⟨⟨l3,l4⟩,l6⟩:=hl;refine⟨?_,?_⟩
        .cases f with
         | zero=>cases hr
         | succ f=>
          obtain⟨k2,n2,i2,J1,e2,m3,m4,m6⟩:∃k2 n2 i2 J1,inst (B.length::σ) 0 (.mk k' n' i' ts')=.mk k2 n2 i2 J1/\(k2==3)=false/\(k2==4)=false/\(k2==6)=false:=by
           rcases Dt (B.length::σ) 0 cI with ⟨rfl,rfl,rfl,_,_,⟨x,_,h3⟩|h3⟩|⟨_,h3⟩
           all_goals grind
          rw[e2,BF,m3,m4,m6] at hr;simp only[AH] at hr;cases hq:k2==0||k2==2||k2==7 with
          | true=>
           grind
          | false=>
           grind
        grind[lv]
       generalize BF (AR 32) f (inst (B.length::σ) 0 body) (B++[b])=o at hay hpy hcn hpt hbg hlf ⊢;rcases o with ⟨_|l,B1⟩
       .grind
       .simp only at hay hpy hcn hpt hbg hlf ⊢
        have pF:l.length<=32:=by grind
        have oH:(Ca (AR 32) (B5 (AR 32) (BF (AR 32) f b) B.length) l [] B1).2.length<=B1.length+nF body*nb b:=by
         cases hlb:Wn body with
         | true=>
          obtain⟨q1,q2⟩:=hlf hlb l rfl;rw[nF,hlb];have:=we (v:=B.length) hab q1 (λt ht=>CN (hcn B1.length l rfl (Ac _) t ht) q2) B1
          grind
         | false=>
          rw[nF,hlb];exact ADU OB hcb Zz (B0:=B++[b]) (by simp) hab pF (λt ht=>⟨hpt l rfl t ht,hcn B1.length l rfl (Ac _) t ht⟩) hpy
        generalize Ca (AR 32) (B5 (AR 32) (BF (AR 32) f b) B.length) l [] B1=o2 at oH ⊢;rcases o2 with ⟨_|out,B2⟩
        all_goals grind
theorem Mu:∀{l:List Ty} {a:Ty},a∈l->depth a<=FN l
 | b::l,a,h=>by
  simp only[FN];rcases A6.1 h with rfl|h
  .omega
  .have:=Mu h
   omega
section
variable {R:RT}
theorem wh {e A4 M f:Nat} (JW:A4<2 ^ 20) {n:List UInt8} {i:Int} {ts:List Ty} (hl:ts.length<2 ^ 36) {B:List Ty}
  (ih:∀t∈ts,∀B',B<+:B'->(BF (AR A4) f t B').2.length<=M->∀x,BV (ren t) x->∀s,BM s->WX R e A4 44 [x] (BF (AR A4) f t B') B' s)
  (hM:(Lo A4 (BF (AR A4) f) ts B).2.length<=M) {x:AV} (hx:BV (ren (.mk 3 n i ts)) x) {s:AL} (hs:BM s):WX R e A4 44 [x] ((match (Lo A4 (BF (AR A4) f) ts B).1 with
   | none=>none
   | some l=>bif AR A4 l.length then none else some l),(Lo A4 (BF (AR A4) f) ts B).2) B s:=by
 intro L d hro Eb hE hd;have le:=(BL.1 hE).1;have same:s.bs.set e [d,AB A4]=s.bs:=by grind[List.set_getElem_self]
 have hxc:=hx;rw[HL _ _ _ _ (by decide)] at hx;obtain⟨a,rfl,ha⟩:=hx;obtain⟨_,_,hxi⟩:=hxc.cells;refine m44 (by rfl) ?_;rw[hro,Eb];have g0:=Az s.bs [AB 3,SS n,AB i,a];have gE:=Av hE [AB 3,SS n,AB i,a];have hT:(s.bs++[[AB 3,SS n,AB i,a]]).take s.bs.length=s.bs.set e [d,AB A4]:=by grind
 have hok:BM ⟨s.bs++[[AB 3,SS n,AB i,a]],s.ts⟩:=BM.app (s:=s) hs (hxi _);refine MN ha false rfl (cQ (Aq (Ay (Aq (Ay (BH ?_))))));generalize s.bs++[[AB 3,SS n,AB i,a]]=bs at g0 gE hT hok;obtain⟨w,s',⟨d3,Ms,q1,q2,q3,rfl⟩,q4⟩:=ADO (R:=R) (e:=e) JW (λt B=>HJ f t B) (λt _ B r h=>by grind[Km]) ha hl ih (DE B) hM hok (Dh (env R) 44 0 0 0) d rfl rfl gE hd;have T4:(bs.set e [d3,AB A4]).take s.bs.length=s.bs.set e [d3,AB A4]:=by grind[EG]
 have RV:(bs.set e [d3,AB A4])[e]?=some [d3,AB A4]:=Bf gE;refine AK (AP g0) (AU (off:=3) g0 rfl ⟨_,_,q4,?_⟩);generalize Lo A4 (BF (AR A4) f) ts B=o at q1 q2;obtain⟨r,B2⟩:=o;cases r with
 | none=>
  cases q1;exact CB rfl (CB rfl (SE (Ev hs T4 (q2.A1.Ar _) (r:=none) rfl λw hw=>⟨d3,Ms,hw,q2,q3,rfl⟩)))
 | some out=>
  obtain⟨a5,rfl,ha5⟩:=q1;exact CB rfl (CB rfl (cO ha5 RV λw hw=>Ev hs T4 (q2.A1.Ar _) hw λw hw=>⟨d3,Ms,hw,q2,q3,rfl⟩))
theorem wj {e A4 M f:Nat} {n:List UInt8} {i:Int} {ts:List Ty} (hl:ts.length*A4<2 ^ 38) (Pb:ts.length<2 ^ 38) {B:List Ty}
  (ih:∀t∈ts,∀B',B<+:B'->(BF (AR A4) f t B').2.length<=M->∀x,BV (ren t) x->∀s,BM s->WX R e A4 44 [x] (BF (AR A4) f t B') B' s)
  {out:List Ty} {ok:Bool} {B1:List Ty} (ho:G4 (BF (AR A4) f) ts [] true B=((out,ok),B1)) (hM:B1.length<=M) {x:AV} (hx:BV (ren (.mk 4 n i ts)) x) {s:AL} (hs:BM s):WX R e A4 44 [x] ((bif ok&&!AR A4 out.length then some out else none),B1) B s:=by
 intro L d hro Eb hE hd;have le:=(BL.1 hE).1;have same:s.bs.set e [d,AB A4]=s.bs:=by grind[List.set_getElem_self]
 have hxc:=hx;rw[HL _ _ _ _ (by decide)] at hx;obtain⟨a,rfl,ha⟩:=hx;obtain⟨_,_,hxi⟩:=hxc.cells;refine m44 (by rfl) ?_;rw[hro,Eb];have g0:=Az s.bs [AB 4,SS n,AB i,a];have gE:=Av hE [AB 4,SS n,AB i,a];have hT:(s.bs++[[AB 4,SS n,AB i,a]]).take s.bs.length=s.bs.set e [d,AB A4]:=by grind
 have hok:BM ⟨s.bs++[[AB 4,SS n,AB i,a]],s.ts⟩:=BM.app (s:=s) hs (hxi _);refine MN ha false rfl (cQ (Aq (Ay (BH ?_))));have N7:s.bs.length<=(s.bs++[[AB 4,SS n,AB i,a]]).length:=by simp
 generalize s.bs++[[AB 4,SS n,AB i,a]]=bs at g0 gE hT hok N7;refine AK (AP g0) (AU (off:=3) g0 rfl (Al (n:=ts.length) (by rw[ha.A9,AQ,Bk,CC]) ?_));refine ADP (R:=R) (M:=M) (λt B=>HJ f t B) (λt _ B r h=>by grind[Km]) ha hl Pb ih le (o:=((out,ok),B1)) hM ?_ ts.length 0 [] true B bs s.ts d (.AA []) (by omega) (by grind) (DE B) (by simp) hok hT N7 hd (.inl rfl) (CY.refl _ _) (DR.AA _ _) (RS.AA _ _);intro b2 tk d2 acc hs2 Ia Sm hch hacc;have gE2:b2[e]?=some [d2,AB A4]:=B6 Ia (by rw[CU le]);cases ok with
 | false=>exact SE (Ev hs Ia (Sm.A1.Ar _) (r:=none) rfl λw hw=>⟨d2,tk,hw,Sm,hch,rfl⟩)
 | true=>
  refine cO hacc gE2 λw hw=>Ev hs Ia (Sm.A1.Ar _) hw λw hw=>⟨d2,tk,?_,Sm,hch,rfl⟩
  grind
theorem cX (hn:Tl R) {e A4 M:Nat} (dz:1<=A4) (JW:A4<2 ^ 20) (hM:M<2 ^ 37):∀(f:Nat) (t:Ty) (σ:List Nat),depth t<=f->valid t=true->Cv σ.length t=true->wt t<2 ^ 37->size t<2 ^ 18->∀(B:List Ty),(∀x∈σ,x<B.length) ->
  (BF (AR A4) f (inst σ 0 t) B).2.length<=M->∀x,BV (ren (inst σ 0 t)) x->∀s,BM s->WX R e A4 44 [x] (BF (AR A4) f (inst σ 0 t) B) B s:=by
 intro f
 induction f with
 | zero=>
  intro t σ hd;obtain⟨k,n,i,ts⟩:=t
  grind[depth]
 | succ f ih=>
  intro t σ hdp hv hc hw hsz B hσ oz x hx s hs;obtain⟨k,n,i,ts⟩:=t;have Pz:=hv;simp only[valid,AG] at hv;have hb0:AR A4 0=false:=by rfl
  have SX:AR A4 1=false:=by grind
  have hinv:=Dt σ 0 Pz;simp only[depth] at hdp;simp only[size] at hsz
  have leaf:∀(T:Ty) (k' i':Int) (n':List UInt8) (ts':List Ty),ren T=.mk k' n' i' ts'->(k'==0||k'==2)=true->∀x,BV (ren T) x->WX R e A4 44 [x] (some [T],B) B s:=by
   intro T k' i' n' ts' hT hk x hx L d hro Eb hE hd;have same:s.bs.set e [d,AB A4]=s.bs:=by grind[List.set_getElem_self]
   rw[hT] at hx;obtain⟨a,rfl,ha⟩:=hx;refine m44 (by rfl) ?_;rw[hro,Eb];refine ADR hT hk ha hE λw hw=>?_
   rw[SX] at hw;exact Ev hs (by grind) (hd.A1.Ar _) hw λw hw=>⟨d,s.ts,hw,hd,CY.refl _ _,rfl⟩
  have rest:∀(k' i':Int) (n':List UInt8) (ts':List Ty),k'≠0->k'≠2->k'≠3->k'≠4->k'≠6->∀x,BV (.mk k' n' i' ts') x->WX R e A4 44 [x] (some [],B) B s:=by
   intro k' i' n' ts' h0 h2 h3 h4 h6 x hx L d hro Eb hE hd;have same:s.bs.set e [d,AB A4]=s.bs:=by grind[List.set_getElem_self]
   obtain⟨a,rfl,ha⟩:=hx;refine m44 (by rfl) ?_;rw[hro,Eb];refine ADS ha h0 h2 h3 h4 h6 hE λw hw=>?_
   exact Ev hs (by grind) (hd.A1.Ar _) hw λw hw=>⟨d,s.ts,hw,hd,CY.refl _ _,rfl⟩
  have mem:∀(hk:k≠6) (lD:k≠5),(∀t∈ts,wt t<2 ^ 37)->∀t∈ts.map (inst σ 0),∀B',B<+:B'->(BF (AR A4) f t B').2.length<=M->∀x,BV (ren t) x->∀s,BM s->WX R e A4 44 [x] (BF (AR A4) f t B') B' s:=by
   intro hk lD hwt t ht B' hB' gH x hx s hs;obtain⟨t0,ZU,rfl⟩:=C3.1 ht;have:=Mu ZU;have:=HH ZU;exact ih t0 σ (by omega) (Cb hv.2 ZU) (Hj hk (D9 hc lD) ZU) (hwt t0 ZU) (by omega) B' (λy hy=>F0 (hσ y hy) hB'.length_le) gH x hx s hs
  have hts:=BQ ts;have AK5:∀{l:List Nat} {a:Nat},a∈l->a<=l.sum:=λh=>D0 h
  rcases NL hv.1 with ⟨rfl,rfl,rfl,rfl⟩|⟨rfl,rfl,rfl,rfl⟩|rfl|⟨rfl,rfl,rfl⟩|⟨rfl,rfl,rfl,hne⟩|⟨rfl,rfl,rfl,h0⟩|⟨rfl,rfl,rfl,b,body,rfl,hcb⟩
  .have eo:BF (AR A4) (f+1) (inst σ 0 (.mk 0 [] 0 [])) B=(some [inst σ 0 (.mk 0 [] 0 [])],B):=by grind[BF]
   rw[eo];exact leaf _ 0 0 [] [] rfl rfl x hx
  .have eo:BF (AR A4) (f+1) (inst σ 0 (.mk 1 [] 0 [])) B=(some [],B):=by rfl
   rw[eo];exact rest 1 0 [] [] (by decide) (by decide) (by decide) (by decide) (by decide) x hx
  .grind[BF,HL]
  .have e1:inst σ 0 (.mk 3 [] 0 ts)=.mk 3 [] 0 (ts.map (inst σ 0)):=by grind[Et]
   rw[e1] at hx oz ⊢
   have et:BF (AR A4) (f+1) (.mk 3 [] 0 (ts.map (inst σ 0))) B=((match (Lo A4 (BF (AR A4) f) (ts.map (inst σ 0)) B).1 with
     | none=>none
     | some l=>bif AR A4 l.length then none else some l),(Lo A4 (BF (AR A4) f) (ts.map (inst σ 0)) B).2):=by
    rw[BF,Lo];simp only[show((3:Int)==0)=false from rfl,show((3:Int)==2)=false from rfl,show((3:Int)==7)=false from rfl,show((3:Int)==4)=false from rfl,K4,AH,DL,AN];rcases Er (BF (AR A4) f) (ts.map (inst σ 0)) [] B with ⟨_|ls,B1⟩
    all_goals grind
   grind[wh,wt,IU,List.mem_map_of_mem]
  .have e1:inst σ 0 (.mk 4 [] 0 ts)=.mk 4 [] 0 (ts.map (inst σ 0)):=by grind[Et]
   rw[e1] at hx oz ⊢;rcases hu:G4 (BF (AR A4) f) (ts.map (inst σ 0)) [] true B with ⟨⟨out,ok⟩,B1⟩
   have et:BF (AR A4) (f+1) (.mk 4 [] 0 (ts.map (inst σ 0))) B=((bif ok&&!AR A4 out.length then some out else none),B1):=by grind[BF]
   rw[et] at oz ⊢;have hmul:ts.length*A4<=ts.length*2 ^ 20:=Ei _ (by omega);refine wj (by grind) (by grind) (mem (by decide) (by decide) λt ht=>?_) hu oz hx hs
   grind[wt,IU,List.mem_map_of_mem]
  .grind[BF,ren]
  .simp only[BT,AG] at hv
   obtain⟨_,OB,cI,_⟩:=hv;have e1:inst σ 0 (.mk 6 [] 0 [b,body])=.mk 6 [] 0 [b,inst σ 1 body]:=by grind[Db,Ec,Iu]
   have hcy:Cv (1+σ.length) body=true:=by
    have:=D9 hc (by decide);simp only[D8,AG] at this;have h2:=this.2.1;rw[Md];exact h2
   rw[e1] at hx oz ⊢;have et:BF (AR A4) (f+1) (.mk 6 [] 0 [b,inst σ 1 body]) B=wX A4 (BF (AR A4) f) b (inst σ 1 body) B:=by rfl
   rw[et] at oz ⊢;simp only[FN] at hdp;simp only[AY] at hsz;rw[wt] at hw;simp only[DL,AN,oa,OA,wx] at hw
   have hwb:wt b<2 ^ 37/\wt body<2 ^ 37:=by
    have p3:1*wt b<=max 1 (cv body)*wt b:=CO _ (by omega);omega
   refine o9 hn JW hM OB hcb cI hcy (by omega) hw hσ ?_ ?_ oz hx hs
   .intro B' gH x hx s hs
    have:=ih b [] (by omega) OB hcb hwb.1 (by omega) B' (λy hy=>by grind)
    grind[ER]
   grind
end
theorem wk:∀(n:Nat) (l:List Int),l.Nodup->(∀i∈l,0<=i/\i<(n:Int))->l.length<=n:=by
 intro n
 induction n with
 | zero=>
  intro l _ h;cases l with
  | nil=>simp
  | cons a l=>
   have:=h a (by simp);omega
 | succ n ih=>
  intro l hn h
  by_cases hm:(n:Int)∈l
  .have h1:=ih (l.erase (n:Int)) (hn.erase _) (λi hi=>by grind)
   grind
  grind
theorem Rl.lR {B:List Ty} {lo hi:Nat} {b:Br} {p:Ty} {φ:List Nat} (H:Rl false 0 B lo hi [] b p φ):(occs b.body []).length<=φ.length:=by
 refine wk _ _ (LQ b.body [] HC) λi hi=>?_
 rcases MH b.body [] i hi with h|h
 .cases h
 .rcases H.vis i h with h|h|h
  all_goals grind
structure Yx (t b:Ty):Prop where
 val:valid b=true
 cl:Cv 0 b=true
 dep:depth b<depth t
 Wr:size b<size t
 wts:wt b<=wt t
 bws:bw b<=bw t
 nbs:nb b<=nb t
theorem AK6 (t:Ty):1<=nF t:=by grind[nF]
theorem UA {P:Ty->Prop}:∀{l:List Ty},(∀t∈l,D3 P t)->MM P l
 | [],_=>trivial
 | t::l,h=>by
  rw[MM];exact⟨h t (by simp),UA λa ha=>h a (by grind)⟩
theorem wm:∀(m:Nat) (t:Ty),depth t<=m->valid t=true->D3 (Yx t) t:=by
 intro m
 induction m with
 | zero=>
  intro t hd;obtain⟨k,n,i,ts⟩:=t
  grind[depth]
 | succ m ih=>
  intro t hd hv;obtain⟨k,n,i,ts⟩:=t;have Pz:=hv;simp only[valid,AG] at hv;simp only[depth] at hd
  have up:∀t0∈ts,(wt t0<=wt (.mk k n i ts)/\bw t0<=bw (.mk k n i ts)/\nb t0<=nb (.mk k n i ts))->D3 (Yx (.mk k n i ts)) t0:=by
   intro t0 h0 h1;have hd0:=Mu h0;have hs0:=HH h0;refine Wa (λb hb=>?_) t0 (ih t0 (by omega) (Cb hv.2 h0));exact⟨hb.val,hb.cl,by have:=hb.dep; grind[depth],by have:=hb.Wr; grind[size],CN hb.wts h1.1,CN hb.bws h1.2.1,CN hb.nbs h1.2.2⟩
  have mem3:∀(hk:(k==6)=false) (hk2:(k==3||k==4)=true),∀t0∈ts,wt t0<=wt (.mk k n i ts)/\bw t0<=bw (.mk k n i ts)/\nb t0<=nb (.mk k n i ts):=by
   intro hk hk2 t0 h0;rw[wt,bw,nb,hk,hk2];simp only[AH,AN,IU,Gi,T9];have h1:=D0 (Eh (f:=wt) h0);have h2:=D0 (Eh (f:=bw) h0);have h3:=D0 (Eh (f:=nb) h0);omega
  have hty:∀l:List Ty,(∀t∈l,t∈ts)->True:=λ_ _=>trivial
  rw[D3]
  by_cases h6:k=6
  .subst h6
   rcases NL hv.1 with h' | h' | h' | h' | h' | h' | ⟨_,rfl,rfl,b,body,rfl,hcb⟩
   iterate 6 exact absurd h' (by simp)
   simp only[BT,AG] at hv;have e1:wt (.mk 6 [] 0 [b,body])=wt body+max 1 (cv body)*wt b:=rfl;have e2:bw (.mk 6 [] 0 [b,body])=bw body+1+(cv body+1)*bw b:=rfl;have e3:nb (.mk 6 [] 0 [b,body])=1+nb body+nF body*nb b:=rfl;have w1:1*wt b<=max 1 (cv body)*wt b:=CO _ (by omega);have w3:1*bw b<=(cv body+1)*bw b:=CO _ (by omega);have w4:1*nb b<=nF body*nb b:=CO _ (AK6 body);refine⟨λ_ b' body' he=>?_,λ_=>UA λt0 h0=>up t0 h0 ?_⟩
   .cases he
    exact⟨hv.2.1,hcb,by grind[depth,FN],by grind[size,AY],by omega,by omega,by omega⟩
   grind
  grind[UA]
theorem wo {α β:Type} (p:α->Bool) (g:α->List β) (q:β->Bool):∀l:List α,(l.all p&&(l.flatMap g).all q)=l.all λb=>p b&&(g b).all q
 | []=>rfl
 | a::l=>by grind
theorem all_congr {α:Type} {p q:α->Bool}:∀{l:List α},(∀a∈l,p a=q a)->l.all p=l.all q
 | [],_=>rfl
 | a::l,h=>by
  rw[HA,HA,h a (by simp),all_congr λb hb=>h b (by grind)]
theorem CV.map_eq {α β γ:Type} {R:α->β->Prop} {f:α->γ} {g:β->γ} (h:∀a b,R a b->f a=g b):∀{l:List α} {m:List β},CV R l m->l.map f=m.map g
 | [],[],_=>rfl
 | a::l,b::m,⟨h1,h2⟩=>by rw[CE,CE,h a b h1,h2.map_eq h]
 | [],_::_,h=>h.elim
 | _::_,[],h=>h.elim
theorem Nw {t:Ty} {f:Nat} (hv:valid t=true) (hc:Cv 0 t=true):∀b∈(BF (AR 32) f t []).2,Yx t b:=by
 have:=Wd (BD:=AR 32) (P:=Yx t) f t [] hv hc (wm _ t (Ac _) hv) [] (λb hb=>by grind)
 grind[ER]
theorem AWs:∀(f:Nat) (t:Ty),(verdict t=0->Cj (bw t))->xP f t=xR f t:=by
 intro f
 induction f with
 | zero=>intro t _; rfl
 | succ f ih=>
  intro t hs;rw[xP,xR];cases hg:!(verdict t==0)||!(Cv 0 t) with
  | true=>rfl
  | false=>
   simp only[Hu,Bool.not_eq_false',K2] at hg;obtain⟨hv,hc⟩:=hg;have hs:=hs hv;obtain⟨hv,_,_⟩:=LU hv;simp only[AH];have h:=gG (BD:=AR 32) rfl rfl (depth t) t [] hv hc HC hs [] (λx hx=>by grind);rw[ER hv hc] at h;have hb:=Nw (f:=depth t) hv hc;have hsz:=Df (BD:=AR 32) (depth t) t;generalize DS (AR 32) (depth t) t=o at h hsz;generalize BF (AR 32) (depth t) t []=o2 at h hb;rcases o with _|l <;> rcases o2 with ⟨_|ps,B⟩
   .rfl
   .exact h.elim
   .exact h.elim
   .obtain⟨_,h2⟩:=h
    simp only at hb ⊢
    have e:l.map FQ=ps.map (KG B):=by
     have h3:CV (λb p=>b∈l/\∃φ,Rl false 0 B ([]:List Ty).length B.length [] b p φ) l ps:=by
      have gen:∀(l':List Br) (ps':List Ty),(∀b∈l',b∈l)->CV (λb p=>∃φ,Rl false 0 B ([]:List Ty).length B.length [] b p φ) l' ps'->CV (λb p=>b∈l/\∃φ,Rl false 0 B ([]:List Ty).length B.length [] b p φ) l' ps':=by
       intro l'
       induction l' with
       | nil=>intro ps' _ h; cases ps' with
        | nil=>trivial
        | cons _ _=>exact h.elim
       | cons a l' ihl=>
        intro ps' hm h;cases ps' with
        | nil=>exact h.elim
        | cons p ps'=>exact⟨⟨hm a (by simp),h.1⟩,ihl ps' (λb hb=>hm b (by grind)) h.2⟩
      grind
     refine h3.map_eq λb p ⟨Ng,φ,H⟩=>(vL H (Ac _) (DT hs ?_)).symm
     have:=H.lR;have:=H.len
     grind
    rw[e,wo]
    have hall:(ps.map (KG B)).all (λb=>RU b&&b.bounds.all λb=>Dw (xP f b))=(ps.map (KG B)).all (λb=>RU b&&b.bounds.all λb=>Dw (xR f b)):=by
     refine all_congr λb hbm=>?_
     obtain⟨p,_,rfl⟩:=C3.1 hbm;congr 1;refine all_congr λc N8=>?_
     rw[ih c];intro hvc;have N8:c∈(LP B.length p []).2.map λx=>B.getD x aR:=N8
     obtain⟨x,_,rfl⟩:=C3.1 N8;rw[Xb];cases hx:B[x]? with
     | none=>exact DT hs (AI _)
     | some c=>exact DT hs (hb c (A5 hx)).bws
    rw[hall]
mutual
def vP (p:Int->Bool):Ty->Bool
 | .mk k n i ts=>bif k==5 then n==[]&&(ts.isEmpty&&p i) else bif k==2||k==3 then RF p ts else true
def RF (p:Int->Bool):List Ty->Bool
 | []=>true
 | t::l=>vP p t&&RF p l
end
mutual
theorem Yy {p q:Int->Bool} (h:∀i,p i=true->q i=true):∀t:Ty,vP p t=true->vP q t=true
 | .mk k n i ts,ht=>by
  rw[vP] at ht ⊢;cases h5:k==5 with
  | true=>
   grind
  | false=>
   rw[h5] at ht;cases h2:k==2||k==3 with
   | true=>
    rw[h2] at ht;exact UB h ts ht
   | false=>rfl
theorem UB {p q:Int->Bool} (h:∀i,p i=true->q i=true):∀l:List Ty,RF p l=true->RF q l=true
 | [],_=>rfl
 | t::l,hl=>by
  simp only[RF,AG] at hl ⊢;exact⟨Yy h t hl.1,UB h l hl.2⟩
end
theorem UC (p:Int->Bool):∀(l m:List Ty),RF p (l++m)=(RF p l&&RF p m)
 | [],m=>by rfl
 | t::l,m=>by simp[RF,UC p l m,Rn]
theorem PE:∀(l m:List Ty),AY (l++m)=AY l+AY m
 | [],m=>by simp[AY]
 | t::l,m=>by simp only[Dx,AY,PE l m]; omega
mutual
theorem Nx {p q:Int->Bool} {g:Int->Int} (h:∀i,p i=true->q (g i)=true):∀t:Ty,vP p t=true->vP q (CH (λi=>var (g i)) t)=true/\size (CH (λi=>var (g i)) t)=size t
 | .mk k n i ts,ht=>by
  rw[vP] at ht;rw[CH];cases h5:k==5 with
  | true=>
   grind[size,vP]
  | false=>
   rw[h5] at ht;simp only[AH] at ht ⊢;cases h2:k==2||k==3 with
   | true=>
    rw[h2] at ht;obtain⟨i1,i2⟩:=lS h ts ht
    grind[size,vP]
   | false=>
    grind[vP]
theorem lS {p q:Int->Bool} {g:Int->Int} (h:∀i,p i=true->q (g i)=true):∀l:List Ty,RF p l=true->RF q (Cr (λi=>var (g i)) l)=true/\AY (Cr (λi=>var (g i)) l)=AY l
 | [],_=>⟨rfl,rfl⟩
 | t::l,hl=>by
  simp only[RF,AG] at hl;obtain⟨i1,i2⟩:=Nx h t hl.1;obtain⟨j1,j2⟩:=lS h l hl.2
  grind[Cr,RF,AY]
end
mutual
theorem AFW {p:Int->Bool} {c:Ty} (hc:vP p c=true):∀(b:Ty) (k:Nat),vP p b=true->vP p (QB c b k)=true/\size (QB c b k)<=size b+size c
 | .mk d n i ts,k,hb=>by
  have hb':=hb;rw[vP] at hb;rw[QB];cases h5:d==5 with
  | true=>
   grind
  | false=>
   rw[h5] at hb;simp only[AH] at hb ⊢;cases h3:d==3 with
   | true=>
    have h23:(d==2||d==3)=true:=by grind
    rw[h23] at hb;obtain⟨i1,i2⟩:=wq hc ts k hb
    grind[size,vP]
   | false=>grind
theorem wq {p:Int->Bool} {c:Ty} (hc:vP p c=true):∀(l:List Ty) (k:Nat),RF p l=true->RF p (Kh c l k)=true/\AY (Kh c l k)<=AY l+size c
 | [],_,_=>⟨rfl,AI _⟩
 | t::l,k,hl=>by
  simp only[RF,AG] at hl;rw[Kh];cases decide (k<(Aj t).length) with
  | true=>
   obtain⟨i1,i2⟩:=AFW hc t k hl.1
   grind[RF,AY]
  | false=>
   obtain⟨i1,i2⟩:=wq hc l (k-(Aj t).length) hl.2
   grind[RF,AY]
end
mutual
theorem lT {p:Int->Bool}:∀t:Ty,vP p t=true->∀i∈Aj t,p i=true
 | .mk k n i ts,ht,j,hj=>by
  rw[vP] at ht;rw[Aj] at hj;cases h5:k==5 with
  | true=>
   grind
  | false=>
   rw[h5] at ht hj;cases h3:k==3 with
   | true=>
    have h23:(k==2||k==3)=true:=by grind
    rw[h3] at hj;rw[h23] at ht;exact cY ts ht j hj
   | false=>grind
theorem cY {p:Int->Bool}:∀l:List Ty,RF p l=true->∀i∈Bp l,p i=true
 | [],_,_,hj=>by cases hj
 | t::l,hl,j,hj=>by
  simp only[RF,AG] at hl;rw[Bp] at hj;rcases B9.1 hj with hj|hj
  .exact lT t hl.1 j hj
  .exact cY l hl.2 j hj
end
mutual
theorem PG:∀t:Ty,valid t=true->vP (λi=>decide (0<=i)&&decide (i<=200)) t=true
 | .mk k n i ts,h=>by
  have h':=h;simp only[valid,AG] at h;rw[vP];cases h5:k==5 with
  | true=>
   grind[I2,QL]
  | false=>
   simp only[AH];rw[Ws ts h.2];simp
theorem Ws:∀l:List Ty,BT l=true->RF (λi=>decide (0<=i)&&decide (i<=200)) l=true
 | [],_=>rfl
 | t::l,h=>by
  simp only[BT,AG] at h;rw[RF,PG t h.1,Ws l h.2];rfl
end
abbrev SH (N:Nat):Int->Bool:=λi=>decide (-201<=i)&&(decide (i<N)||i==hole)
theorem ADW {N:Nat} {i:Int}:SH N i=true<->-201<=i/\(i<N\/i=hole):=by simp
theorem AK7 {N M:Nat} (h:N<=M) (i:Int) (hi:SH N i=true):SH M i=true:=by grind
theorem count_map {l:List Int} {g:Int->Int} (h:∀i∈l,g i=hole->i=hole) (h0:l.count hole=0):(l.map g).count hole=0:=by grind[List.count_eq_zero]
theorem AK8 (n:Nat):IB n=CH λi=>var (bif decide (0<=i)&&!(i==hole) then i+n else i):=by grind[IB]
theorem AQQ {N n:Nat} {i:Int} (hi:SH N i=true):SH (n+N) (bif decide (0<=i)&&!(i==hole) then i+n else i)=true:=by grind[decide]
theorem ADX {N n:Nat} (h:((n+N:Nat):Int)<hole) {i:Int} (hi:SH N i=true) (he:(bif decide (0<=i)&&!(i==hole) then i+n else i)=hole):i=hole:=by grind
structure MO (W:Nat) (b:Br):Prop where
 ok:vP (SH b.bounds.length) b.body=true
 Wr:size b.body<=W
 nh:(Aj b.body).count hole=0
theorem MO.le {W V:Nat} {b:Br} (h:MO W b) (hl:W<=V):MO V b:=⟨h.ok,CN h.Wr hl,h.nh⟩
theorem MO.shift {W:Nat} {c:Br} (h:MO W c) {n:Nat} (hs:((n+c.bounds.length:Nat):Int)<hole):vP (SH (n+c.bounds.length)) (IB n c.body)=true/\size (IB n c.body)<=W/\(Aj (IB n c.body)).count hole=0:=by
 rw[AK8];obtain⟨i1,i2⟩:=Nx (q:=SH (n+c.bounds.length)) (g:=λi=>bif decide (0<=i)&&!(i==hole) then i+n else i) (λi hi=>AQQ hi) c.body h.ok;refine⟨i1,by rw[i2]; exact h.Wr,?_⟩;rw[EO];exact count_map (λi hi he=>ADX hs (lT _ h.ok i hi) he) h.nh
section
variable {BD:Nat->Bool}
theorem lU {W:Nat} {b c:Br} {k:Nat} (hb:vP (SH b.bounds.length) b.body=true) (hk:GL b.body=some k) (hc:MO W c) (hs:((b.bounds.length+c.bounds.length:Nat):Int)<hole) :
  vP (SH (Dp b k c).bounds.length) (Dp b k c).body=true/\size (Dp b k c).body<=size b.body+W/\(Aj (Dp b k c).body).count hole+1=(Aj b.body).count hole/\k<(Aj b.body).length:=by
 obtain⟨s1,s2,s3⟩:=hc.shift hs;have el:(Dp b k c).bounds.length=b.bounds.length+c.bounds.length:=by simp[Dp]
 obtain⟨f1,f2⟩:=GH hk;have hkl:k<(Aj b.body).length:=(BL.1 f1).1;obtain⟨t1,t2⟩:=TR f1 f2;have e:(Dp b k c).body=QB (IB b.bounds.length c.body) b.body k:=rfl;obtain⟨r1,r2⟩:=AFW s1 b.body k (Yy (λi hi=>AK7 (Kz _ _) i hi) _ hb)
 grind[Ov]
theorem lW {l:List Br} {W w S T:Nat} (hl:∀c∈l,MO W c/\c.bounds.length<=w) (hT:(T:Int)<hole):∀(f:Nat) (b:Br) (r:List Br),vP (SH b.bounds.length) b.body=true->(Aj b.body).count hole<=f->size b.body+(Aj b.body).count hole*W<=S->b.bounds.length+(Aj b.body).count hole*w<=T ->
  Ed BD l f b=some r->∀d∈r,MO S d
 | 0,b,r,hb,hf,hS,_,h,d,hd=>by
  rw[Ed] at h;cases h;rw[E5.1 hd];exact⟨hb,by omega,by omega⟩
 | f+1,b,r,hb,hf,hS,hTb,h,d,hd=>by
  rw[Ed] at h;cases hk:GL b.body with
  | none=>
   rw[hk] at h;cases h;rw[E5.1 hd];refine⟨hb,by omega,?_⟩;rw[Rk];intro hm;have h2:(Aj b.body).findIdx? (·==hole)=none:=hk
   grind
  | some k=>
   rw[hk] at h;rcases MG h d hd with h' | ⟨c,h1,s,h2,h3⟩
   .grind
   .obtain⟨hc,hcw⟩:=hl c h1
    have hpos:0<(Aj b.body).count hole:=by
     have hfs:=GH hk
     grind
    have m0:1*w<=(Aj b.body).count hole*w:=CO _ hpos;obtain⟨g1,g2,g3,_⟩:=lU hb hk hc (by omega);have el:(Dp b k c).bounds.length=b.bounds.length+c.bounds.length:=by simp[Dp]
    have m1:(Aj b.body).count hole*W=(Aj (Dp b k c).body).count hole*W+W:=by rw[<-g3,K6]
    have m2:(Aj b.body).count hole*w=(Aj (Dp b k c).body).count hole*w+w:=by rw[<-g3,K6]
    exact lW hl hT f _ s g1 (by omega) (by omega) (by omega) h2 d h3
theorem ADY (n:Nat) (t:Ty):JM n t=CH (λi=>var (bif i==-1 then(n:Int) else bif decide (i<0) then i+1 else i)) t:=by rw[TS]
theorem AQR {W:Nat} {b:Br} (h:MO W b) (hs:((b.bounds.length:Nat):Int)<hole):vP (SH (b.bounds.length+1)) (JM b.bounds.length b.body)=true/\size (JM b.bounds.length b.body)=size b.body/\(Aj (JM b.bounds.length b.body)).count hole=0:=by
 rw[ADY];obtain⟨i1,i2⟩:=Nx (q:=SH (b.bounds.length+1)) (g:=λi=>bif i==-1 then(b.bounds.length:Int) else bif decide (i<0) then i+1 else i) (λi hi=>by grind) b.body h.ok;refine⟨i1,i2,?_⟩;rw[EO];refine count_map (λi hi he=>?_) h.nh
 grind
theorem AQS {N:Nat} {t:Ty} (h:vP (SH (N+1)) t=true) (hs:(N:Int)<hole):vP (SH N) (Kg N hole t)=true/\size (Kg N hole t)=size t:=by
 rw[Nl];refine Nx (q:=SH N) (g:=λi=>bif i==(N:Int) then hole else i) (λi hi=>?_) t h
 grind
theorem wu {W Wb w C:Nat} {TJ:Option (List Br)} {bound:Ty} {b:Br} (hb:MO W b) (hC:(Aj b.body).length<=C) (hl:∀l,TJ=some l->∀c∈l,MO Wb c/\c.bounds.length<=w) {T:Nat} (hT:(T:Int)<hole) (hbT:b.bounds.length+(Aj b.body).length*w<=T) {r:List Br} (h:FO BD TJ bound b=some r):∀d∈r,MO (W+C*Wb) d:=by
 have hs:((b.bounds.length:Nat):Int)<hole:=by omega
 obtain⟨b1,b2,b3⟩:=AQR hb hs;obtain⟨r1,r2⟩:=AQS b1 hs;have YA:=hb.Wr;intro d hd;unfold FO at h;cases ho:oI (·==(b.bounds.length:Int)) (JM b.bounds.length b.body) with
 | true=>
  rw[ho] at h;cases h;rw[E5.1 hd];exact⟨by grind,by grind,b3⟩
 | false=>
  rw[ho] at h;simp only[AH] at h;cases hk:GL (Kg b.bounds.length hole (JM b.bounds.length b.body)) with
  | none=>
   rw[hk] at h;cases h;rw[E5.1 hd];refine⟨r1,by grind,?_⟩;rw[Rk];intro hm;have h2:(Aj (Kg b.bounds.length hole (JM b.bounds.length b.body))).findIdx? (·==hole)=none:=hk
   grind
  | some k=>
   rw[hk] at h;cases hb':TJ with
   | none=>grind
   | some l=>
    rw[hb'] at h;simp only at h;have Bi:(Aj (Kg b.bounds.length hole (JM b.bounds.length b.body))).length=(Aj b.body).length:=by simp[*,Nl,EO,TS]
    have TU:(Aj (Kg b.bounds.length hole (JM b.bounds.length b.body))).count hole<=(Aj b.body).length:=by grind
    have hcs:=Gz b.body;refine lW (S:=W+C*Wb) (T:=T) (λc hc=>hl l hb' c hc) hT _ ⟨b.bounds,Kg b.bounds.length hole (JM b.bounds.length b.body)⟩ r r1 TU ?_ ?_ h d hd
    .have m1:(Aj (Kg b.bounds.length hole (JM b.bounds.length b.body))).count hole*Wb<=C*Wb:=CO _ (by omega)
     grind
    .have m1:(Aj (Kg b.bounds.length hole (JM b.bounds.length b.body))).count hole*w<=(Aj b.body).length*w:=CO _ TU
     grind
end
section
variable {BD:Nat->Bool}
theorem wz {W S:Nat} {b c:Br} {args:List Ty} (hb:MO S b) (he:b.body=.mk 3 [] 0 args) (hc:MO W c) (hs:((b.bounds.length+c.bounds.length:Nat):Int)<hole):MO (S+W) ⟨b.bounds++c.bounds,.mk 3 [] 0 (args++[IB b.bounds.length c.body])⟩:=by
 obtain⟨s1,s2,s3⟩:=hc.shift hs;have hok:=hb.ok;have hsz:=hb.Wr;have hnh:=hb.nh;rw[he] at hok hsz hnh;have hok:RF (SH b.bounds.length) args=true:=by assumption
 have hsz:AY args+1<=S:=by assumption
 have hnh:(Bp args).count hole=0:=by assumption
 refine⟨?_,?_,?_⟩
 all_goals grind[vP,RF,UC,UB,size,PE,AY,Aj,V5]
theorem w6 {T:Nat} (hT:(T:Int)<hole):∀{ls:List (List Br)} {ws vs:List Nat} {out r:List Br} {N S:Nat},(CV (λl w=>∀c∈l,MO w c) ls ws)->(CV (λl w=>∀c∈l,c.bounds.length<=w) ls vs) ->
  (∀b∈out,MO S b/\b.bounds.length<=N/\∃args,b.body=.mk 3 [] 0 args)->N+vs.sum<=T->JN BD ls out=some r->∀d∈r,MO (S+ws.sum) d
 | [],[],[],out,r,N,S,_,_,ho,_,h,d,hd=>by grind[JN]
 | [],_::_,_,_,_,_,_,h,_,_,_,_,_,_=>h.elim
 | [],[],_::_,_,_,_,_,_,h,_,_,_,_,_=>h.elim
 | _::_,[],_,_,_,_,_,h,_,_,_,_,_,_=>h.elim
 | _::_,_::_,[],_,_,_,_,_,h,_,_,_,_,_=>h.elim
 | l::ls,w::ws,v::vs,out,r,N,S,⟨hw,hws⟩,⟨hv,hvs⟩,ho,hN,h,d,hd=>by
  rw[JN] at h;rw[Mb] at hN;cases hb:BD (HI out l).length with
  | true=>grind
  | false=>
   rw[hb] at h;have:=w6 hT (N:=N+v) (S:=S+w) hws hvs ?_ (by omega) h d hd
   all_goals grind[HI,wz]
theorem lX:∀(f:Nat) (t:Ty) (l:List Br),valid t=true->Cj (bw t)->DS BD f t=some l->∀b∈l,MO (wt t) b:=by
 intro f
 induction f with
 | zero=>
  grind[DS]
 | succ f ih=>
  intro t l hv hs h d hd;obtain⟨k,n,i,ts⟩:=t;have Pz:=hv;simp only[valid,AG] at hv;rw[DS] at h;have AK5:∀(hk:(k==6)=false) (hk2:(k==3||k==4)=true),∀t0∈ts,Cj (bw t0):=by grind[DT,bw,Gi,D0]
  rcases NL hv.1 with ⟨rfl,rfl,rfl,rfl⟩|⟨rfl,rfl,rfl,rfl⟩|rfl|⟨rfl,rfl,rfl⟩|⟨rfl,rfl,rfl,hne⟩|⟨rfl,rfl,rfl,h0⟩|⟨rfl,rfl,rfl,b,body,rfl,hcb⟩
  .cases h
   rw[E5.1 hd];exact⟨rfl,by grind[size,wt],rfl⟩
  .grind
  .have hm:∀i,(decide (0<=i)&&decide (i<=200))=true->SH 0 (-1-i)=true:=λi hi=>by grind
   obtain⟨m1,m2⟩:=Nx hm _ (PG _ Pz);cases h;rw[E5.1 hd];refine⟨m1,?_,?_⟩
   all_goals simp[*,size,Nn,wt,Md,Aj,EO]
  .simp only[show((3:Int)==0)=false from rfl,show((3:Int)==2||(3:Int)==5)=false from rfl,AH,DL,AN] at h
   cases hsn:FP (ts.map (DS BD f)) with
   | none=>grind
   | some ls=>
    rw[hsn] at h;simp only at h;have ha:=Kk hsn;cases he:ls.any List.isEmpty with
    | true=>grind
    | false=>
     rw[he] at h;have ZT:=AK5 rfl rfl;have q1:CV (λl w=>∀c∈l,MO w c) ls (ts.map wt):=ha.JP λt l hm hg c hc=>ih t l (Cb hv.2 hm) (ZT t hm) hg c hc
     have q2:CV (λl w=>∀c∈l,c.bounds.length<=w) ls (ts.map bw):=ha.JP λt l _ hg c hc=>(Df f t l hg c hc).1
     have:=w6 (T:=bw (.mk 3 [] 0 ts)) hs (N:=0) (S:=1) q1 q2 (λb hb=>by
      rw[E5.1 hb];exact⟨⟨rfl,by simp[size,AY],rfl⟩,by simp,_,rfl⟩) (by grind[bw,Gi]) h d hd
     grind[wt,IU]
  .simp only[show((4:Int)==0)=false from rfl,show((4:Int)==2||(4:Int)==5)=false from rfl,show((4:Int)==3)=false from rfl,AH,DL,AN] at h
   cases hsn:FP (ts.map (DS BD f)) with
   | none=>grind
   | some ls=>
    rw[hsn] at h;simp only at h;have ha:=Kk hsn;cases hb:BD ls.flatten.length with
    | true=>grind
    | false=>
     rw[hb] at h;cases h;obtain⟨l',h1,h2⟩:=Xa.1 hd;obtain⟨t,h3,h4⟩:=ha.Mo l' h1;refine(ih t l' (Cb hv.2 h3) (AK5 rfl rfl t h3) h4 d h2).le ?_;have e:wt (.mk 4 [] 0 ts)=1+(ts.map wt).sum:=by grind[wt,IU]
     have:=D0 (Eh (f:=wt) h3);omega
  .have hm:∀i,(decide (0<=i)&&decide (i<=200))=true->SH 0 (-1-i)=true:=λi hi=>by grind
   obtain⟨m1,m2⟩:=Nx hm _ (PG _ Pz);cases h;rw[E5.1 hd];refine⟨m1,?_,?_⟩
   .simp[*,size,Nn,wt,Md]
   .show(Aj (rI _)).count hole=0
    rw[Nn,EO,Aj]
    grind[List.count_eq_zero,hole]
  .simp only[show((6:Int)==0)=false from rfl,show((6:Int)==2||(6:Int)==5)=false from rfl,show((6:Int)==3)=false from rfl,show((6:Int)==4)=false from rfl,AH,DL,AN,eD] at h
   simp only[BT,AG] at hv;obtain⟨_,OB,cI,_⟩:=hv;have hbw:bw (.mk 6 [] 0 [b,body])=bw body+1+(cv body+1)*bw b:=rfl;have Zz:Cj (bw b):=DT hs (by grind);have hsy:Cj (bw body):=DT hs (by omega);cases hb:DS BD f body with
   | none=>grind
   | some l0=>
    rw[hb] at h;simp only at h;rcases MG h d hd with h' | ⟨a,h1,s,h2,h3⟩
    .grind
    .obtain⟨z1,z2⟩:=Df f body l0 hb a h1
     have e:wt (.mk 6 [] 0 [b,body])=wt body+max 1 (cv body)*wt b:=rfl;rw[e];refine wu (T:=bw (.mk 6 [] 0 [b,body])) (w:=bw b) (ih body l0 cI hsy hb a h1) (C:=max 1 (cv body)) (by omega) (λl hl c hc=>⟨ih b l OB Zz hl c hc,(Df f b l hl c hc).1⟩) hs ?_ h2 d h3;have m1:(Aj a.body).length*bw b<=cv body*bw b:=CO _ z2
     grind
end
theorem BA.lY {E:Env} {L:A3} {f:FuncId} {args:List AV} {s s':AL} {v:AV} {T:A3->List AV->AL->Option (AV×AL)} {fn:Func} (hfn:E.P.funcs[f]?=some fn) (hc:E.clone f=true) (ht:E.told f=some T) (h:T L args s=some (v,s')):BA E L f args s v s':=by
 refine⟨1,λm hm=>?_⟩;obtain⟨m,rfl⟩:∃m',m=m'+1:=⟨m-1,by omega⟩
 grind[Dl,OU]
theorem Wt {l:List Int} (hs:l.Pairwise (·<·)) {h:Nat} {u:Int} (hu:l[h]?=some u):(∀x∈l.take (h+1),x<=u)/\(∀x∈l.drop h,u<=x)/\(∀x∈l.drop (h+1),u<x):=by
 have e:l=l.take h++u::l.drop (h+1):=by grind[drop_cons,List.take_append_drop]
 have hp:=hs;rw[e,List.pairwise_append] at hp;obtain⟨h1,h2,h3⟩:=hp;have h4:=(List.pairwise_cons.1 h2).1;refine⟨λx hx=>?_,λx hx=>?_,h4⟩
 all_goals grind
section
variable {R:RT}
theorem QY (w:Int):AM (env R) 152 [AB w] λr=>r=BB false:=
 AWu (u0:=AB w) (by simp) (ALA (FD ⟨_,Fz,by simp⟩))
theorem pG (w:Int):AM (env R) 163 [AB w] λr=>r=BB false:=
 AWv (u0:=AB w) (by simp) (ALB (FD ⟨_,Fz,by simp⟩))
theorem pH (a b:Int):AM (env R) 162 [AB a,AB b] λr=>r=BB (decide (a<b)):=by
 refine AWw (u0:=AB a) (u1:=AB b) (by simp) (ALC ?_);refine AD (QY a) ?_;rintro v rfl;exact Bm (Bm (Bm (pk (Am (Am (Am (Ai (pk ⟨_,Fz,rfl⟩))))))))
def w7 (bs:List (List AV)) (l:List Int) (x:AV):Prop:=(x=.AA []/\l=[])\/∃id,x=.ref id 0 l.length 1/\bs[id]?=some (l.map λn=>AB n)/\l≠[]
theorem LV {s:AL} {id:Nat} {l:List Int} (hid:s.bs[id]?=some (l.map λn=>AB n)) (hne:l≠[]):alive s id=true:=by
 obtain⟨c,r,hc⟩:∃c r,l=c::r:=by
  cases l with
  | nil=>grind
  | cons c r=>simp
 simp[*]
theorem UD {want:Bool} {s:AL} {W:(AV->AL->Prop)->Prop} {K:AV->AL->Prop} (h:K (.tuple []) s):I1 (.tuple []) want s W K:=h
theorem ADZ {s:AL} {id i:Nat} {l:List Int} {w:Int} (hid:s.bs[id]?=some (l.map λn=>AB n)) (hne:l≠[]) (hw:l[i]?=some w) {K:AV->Prop} (h:K (AB w)):Bj s 1 (.ref id 0 l.length 1) (AB i) λa=>FC (env R) s none a K:=by
 have hi:i<l.length:=(BL.1 hw).1;refine⟨⟨by omega,by omega,rfl,LV hid hne⟩,?_⟩
 simp_all
def Found (l:List Int) (w:Int) (i:Nat) (b:Bool):Prop:=i<=l.length/\(b=true->l[i]?=some w)/\(b=false->(∀u∈l.take i,u<w)/\∀u∈l.drop i,w<u)
theorem Yz {w:Int} {l:List Int} (hs:l.Pairwise (·<·)) {id:Nat} {s:AL} (hid:s.bs[id]?=some (l.map λn=>AB n)) (hne:l≠[]) (hl:l.length<2 ^ 40) {Post:AV->Prop} (hP:∀(i:Nat) b,Found l w i b->Post (.tuple [AB i,BB b])) {n0 ro rt n m:Nat} :
  ∀(d i j:Nat),j-i<=d->i<=j->j<=l.length->(∀u∈l.take i,u<w)->(∀u∈l.drop j,w<=u)->UE R n0 ro rt (.ref id 0 l.length 1) (AB w) (AB l.length) (AB i) (AB j) s (QI n m Post):=by
 have fin:∀(i:Nat) b,Found l w i b->QI n m Post (.tuple [AB i,BB b]) s:=λi b h=>⟨_,by simp,hP i b h⟩
 intro d
 induction d with
 | zero=>
  intro i j h1 h2 h3 h4 h5;have e:i=j:=by omega
  subst e;refine gj (Ai ?_);simp only[Int.lt_irrefl,decide_false];refine Aq (w8 (Ai ?_))
  by_cases hi:i<l.length
  .obtain⟨u,hu⟩:∃u,l[i]?=some u:=⟨_,Ak hi⟩
   have b1:decide ((i:Int)<(l.length:Int))=true:=by grind
   rw[b1];refine Am (Am ?_);refine Am ?_;have hi':i<l.length:=hi;refine⟨⟨by omega,by omega,rfl,LV hid hne⟩,?_⟩;have e:0+((i:Int).toNat)*1=i:=by omega
   rw[e];refine Am ?_;simp only[FC,hid,wO,Dn,E2,hu,Ma,xL,xM,xF,xG];refine Am (Am (Ay ?_));cases hb:(u==w) with
   | true=>
    have huw:u=w:=by grind
    subst huw;refine Am ?_;refine LS (by simp) (LS (by simp) (LS (by simp) (LS (by simp) (LS (by simp) (LS (by simp) (UD (UD (LS (by simp) ?_))))))));exact Am (pk (pk (fin i true ⟨h3,λ_=>hu,by simp⟩)))
   | false=>
    have huw:u≠w:=by grind
    have hf:Found l w i false:=⟨h3,by simp,λ_=>⟨h4,λx hx=>by
     have h6:=(Wt hs hu).2.1 x hx;have h7:=h5 u (by rw[drop_cons hu]; simp);omega⟩⟩
    refine Am ?_;refine Am (Am (Am ?_));refine⟨⟨by omega,by omega,rfl,LV hid hne⟩,?_⟩;rw[e];refine Am ?_;simp only[FC,hid,wO,Dn,E2,hu,Ma,xL,xM,xF,xG];refine Am ?_;refine AD (pG u) ?_;simp[*]
  .have b1:decide ((i:Int)<(l.length:Int))=false:=by grind
   rw[b1];refine LS (by simp) (LS (by simp) (LS (by simp) (LS (by simp) (LS (by simp) (LS (by simp) (LS (by simp) ?_))))));refine UD (UD (UD (UD (UD (UD (UD (UD (UD ?_))))))));exact LS (by simp) (pk (fin i false ⟨h3,by simp,λ_=>⟨h4,λx hx=>by grind⟩⟩))
 | succ d ih=>
  intro i j h1 h2 h3 h4 h5
  by_cases hij:i<j
  .refine gj (Ai ?_)
   have b1:decide ((i:Int)<(j:Int))=true:=by grind
   rw[b1];refine BH (ALD (Ba (by omega) (by omega) ?_));have hw1:IntKind.u64.wrap ((i:Int)+j)=(i:Int)+j:=by grind[IntKind.wrap,IntKind.bits,IntKind.signed]
   have AQU:∀(K:AV->Prop),K (.pv (.sc (.int .u64 ((i:Int)+j))))->MP .u64 (AB ((i:Int)+j)) K:=by
    intro K h;simp only[MP,hw1];exact h
   refine AQU _ ?_
   have AWx:∀(K:AV->Prop),K (.pv (.sc (.int .u64 (((i+j) / 2:Nat):Int))))->Cg .u64 .shr (.pv (.sc (.int .u64 ((i:Int)+j)))) (.pv (.sc (.int .u64 1))) K:=by
    intro K h;refine⟨⟨rfl,rfl⟩,by omega,?_⟩
    have e:((i:Int)+j).fdiv (2 ^ (min (1:Int).toNat IntKind.u64.bits))=(((i+j) / 2:Nat):Int):=by
     have:(2:Int) ^ (min (1:Int).toNat IntKind.u64.bits)=2:=by rfl
     grind
    grind
   refine AWx _ ?_
   have hw2:IntKind.i64.wrap ((((i+j) / 2:Nat):Int))=(((i+j) / 2:Nat):Int):=by
    unfold IntKind.wrap;simp[IntKind.bits,IntKind.signed];omega
   have ALE:∀(K:AV->Prop),K (AB (((i+j) / 2:Nat):Int))->MP .i64 (.pv (.sc (.int .u64 (((i+j) / 2:Nat):Int)))) K:=by
    intro K h;simp only[MP,hw2];exact h
   refine ALE _ ?_;generalize hh:(i+j) / 2=h at *;obtain⟨u,hu⟩:∃u,l[h]?=some u:=⟨_,Ak (by omega)⟩;refine ADZ hid hne hu ?_;refine AD (pH u w) ?_;rintro v rfl;have hsa:=Wt hs hu
   by_cases hlt:u<w
   .rw[Ap hlt]
    refine BH (Ba (by omega) (by omega) ?_);have:=ih (h+1) j (by omega) (by omega) h3 (λx hx=>by grind) h5
    grind
   .rw[Aw hlt]
    exact Aq (ih i h (by omega) (by omega) (by omega) h4 (λx hx=>by grind))
  .exact ih i j (by omega) h2 h3 h4 h5
theorem Y0 {w:Int} {l:List Int} (hs:l.Pairwise (·<·)) {x:AV} {s:AL} (hx:w7 s.bs l x) (hl:l.length<2 ^ 40) :
  ∃v,(∃(i:Nat) (b:Bool),v=.tuple [AB i,BB b]/\Found l w i b)/\∀L,BA (env R) L 142 [x,AB w] s v s:=by
 rcases hx with ⟨rfl,rfl⟩|⟨id,rfl,hid,hne⟩
 .have:AM (env R) 142 [.AA [],AB w] λv=>∃(i:Nat) (b:Bool),v=.tuple [AB i,BB b]/\Found [] w i b:=by
   refine AWy (u0:=.AA []) (u1:=AB w) (by simp) (w9 ?_);simp;refine gj ?_;simp;refine w8 ?_;simp[*,QP,Found]
  obtain⟨v,h1,h2⟩:=this
  grind
 .have Bi:AX [] 0 0 [.ref id 0 l.length 1,AB w]=none:=by rfl
  refine i142 Bi (w9 ?_);have hal:=LV hid hne
  have hlen:∀K:AV->Prop,K (AB l.length)->BO s (.ref id 0 l.length 1) K:=by
   intro K h;simp only[BO,A9,hal,AN,wO];exact h
  refine hlen _ ?_;exact Yz hs hid hne hl (λi b h=>⟨i,b,rfl,h⟩) _ 0 l.length (Ac _) (by omega) (Ac _) (λu hu=>by grind) (λu hu=>by grind)
end
mutual
def cZ (u:Nat):Ty->List Int
 | .mk k _ i ts=>(bif k==5&&decide ((u:Int)<=i) then [i-u] else [])++PI u k 0 ts
def PI (u:Nat) (k:Int) (j:Nat):List Ty->List Int
 | []=>[]
 | t::l=>cZ (u+Ec k j) t++PI u k (j+1) l
end
mutual
theorem UF:∀(t:Ty) (u:Nat),cZ u t=[]<->Cv u t=true
 | .mk k n i ts,u=>by
  rw[cZ,Cv];cases k==5&&decide ((u:Int)<=i) with
  | true=>simp
  | false=>simpa using Wu ts u k 0
theorem Wu:∀(l:List Ty) (u:Nat) (k:Int) (j:Nat),PI u k j l=[]<->D8 u k j l=true
 | [],_,_,_=>by simp[PI,D8]
 | t::l,u,k,j=>by
  rw[PI,D8,jW,UF t,Wu l,AG]
end
mutual
theorem gu:∀(t:Ty) (u:Nat),(cZ u t).length<=size t
 | .mk k n i ts,u=>by
  have:=lZ ts u k 0
  grind[cZ,size]
theorem lZ:∀(l:List Ty) (u:Nat) (k:Int) (j:Nat),(PI u k j l).length<=AY l
 | [],_,_,_=>by simp[PI]
 | t::l,u,k,j=>by
  have:=gu t (u+Ec k j);have:=lZ l u k (j+1)
  grind[PI,AY]
end
mutual
def ixs:Ty->Bool
 | .mk k _ i ts=>(!(k==5)||(decide (-(2 ^ 60)<=i)&&decide (i<2 ^ 60)))&&pI ts
def pI:List Ty->Bool
 | []=>true
 | t::l=>ixs t&&pI l
end
theorem gv {l:List Int} {w x:Int} {i:Nat}:x∈l.take i++w::l.drop i<->x∈l\/x=w:=by grind[List.take_append_drop]
theorem gw {l:List Int} {w:Int} {i:Nat} (hi:i<=l.length):(l.take i++w::l.drop i).length=l.length+1:=by grind
theorem insert_sorted {l:List Int} {w:Int} {i:Nat} (hs:l.Pairwise (·<·)) (h1:∀u∈l.take i,u<w) (h2:∀u∈l.drop i,w<u):(l.take i++w::l.drop i).Pairwise (·<·):=by grind[List.pairwise_cons]
def NS (q:Nat) (l:List Int) (bs:List (List AV)):Prop:=∃x,bs[q]?=some [x]/\w7 bs l x
structure eF (q:Nat) (l l':List Int) (new:List Int) (s s':AL):Prop where
 ns:NS q l' s'.bs
 srt:l.Pairwise (·<·)->l'.Pairwise (·<·)
 mem:∀x,x∈l'<->x∈l\/x∈new
 len:l'.length<=l.length+new.length
 ts:s'.ts=s.ts
 grow:s.bs.length<=s'.bs.length
 keep:∀(p:Nat) (k n:AV) (r:List AV),(∀i,n≠AB i)->s.bs[p]?=some (k::n::r)->s'.bs[p]?=some (k::n::r)
section
variable {R:RT}
theorem cj {w:Int} {l:List Int} {x:AV} {s:AL} {q i:Nat} (hq:s.bs[q]?=some [x]) (hx:w7 s.bs l x) (hl:l.length<2 ^ 20) (hi:i<=l.length) {L:A3} (hro:L.ro=0) :
  ∃id bs',BA (env R) L 143 [x,AB i,.AA [[.sc (.int .i64 w)]]] s (.ref id 0 (l.length+1) 1) ⟨bs',s.ts⟩/\bs'[id]?=some ((l.take i++w::l.drop i).map λn=>AB n)/\bs'[q]?=some [x]/\q≠id/\s.bs.length<=bs'.length/\q<bs'.length /\
   (∀(p:Nat) (k n:AV) (r:List AV),(∀i,n≠AB i)->s.bs[p]?=some (k::n::r)->bs'[p]?=some (k::n::r)):=by
 have hql:q<s.bs.length:=(BL.1 hq).1;have ei:(AB i)=.pv (.sc (.int .i64 (.ofNat i))):=rfl;rcases hx with ⟨rfl,rfl⟩|⟨id,rfl,hid,hne⟩
 .have hi0:i=0:=by grind
  subst hi0;refine⟨s.bs.length,s.bs++[[AB w]],BA.lY Tryz.func143 (by rfl) (T:=Z1) (by rfl) ?_,?_,?_,by omega,by simp,by grind,?_⟩
  .rfl
  all_goals grind
 .have hil:id<s.bs.length:=(BL.1 hid).1
  have AWz:id≠q:=by
   intro e;subst e
   simp_all
  have h1:1<=l.length:=by grind
  refine⟨s.bs.length,s.bs.set id []++[(l.take i++w::l.drop i).map λn=>AB n],BA.lY Tryz.func143 (by rfl) (T:=Z1) (by rfl) ?_,?_,?_,by omega,by simp,by grind,?_⟩
  .have b1:Nat.beq l.length (l.map λn=>AB n).length=true:=by simp
   have b2:Nat.ble 1 l.length=true:=by simp[*]
   have b3:Nat.ble i l.length=true:=by simp[*]
   have b4:Nat.ble l.length 1000000000=true:=by simp; omega
   grind[Nat.ble,Z1,BE,List.map_take,List.map_drop]
  .simp
  .rw[CZ (by grind),FV AWz,hq]
  .intro p k n r qy hp
   have Kc:p<s.bs.length:=(BL.1 hp).1
   have:id≠p:=by
    intro e;subst e;rw[hp] at hid;rcases l with _|⟨a,_|⟨b,l⟩⟩
    all_goals grind
   rw[CZ (by grind),FV this,hp]
theorem xA {w:Int} {l:List Int} (hsd:l.Pairwise (·<·)) {s:AL} {q:Nat} (hns:NS q l s.bs) (hl:l.length<2 ^ 20) {L:A3} (hro:L.ro=0) (hn0:L.n0=0) :
  ∃v s',(v=.tuple []/\∃l',eF q l l' [w] s s')/\BA (env R) L 118 [.ptr q 0,AB w] s v s':=by
 obtain⟨x,hq,hx⟩:=hns;have hql:q<s.bs.length:=(BL.1 hq).1;refine AW0 (ALF (C1 (AP hq) (AK (AP hq) (AU (off:=0) hq rfl ?_))));obtain⟨v,⟨i,b,rfl,hf⟩,hc⟩:=Y0 (R:=R) (w:=w) hsd hx (by omega);refine⟨_,_,hc _,CB rfl (CB rfl (nt ?_))⟩;obtain⟨hi,hb,hfb⟩:=hf;cases b with
 | true=>
  refine Aq ⟨rfl,l,⟨x,hq,hx⟩,λh=>h,λy=>⟨.inl,?_⟩,by simp,rfl,Ac _,λ_ _ _ _ _ h=>h⟩
  grind
 | false=>
  obtain⟨h8,h9⟩:=hfb rfl;obtain⟨id,bs',h1,h2,h3,h4,h5,h6,h7⟩:=cj (R:=R) (w:=w) hq hx hl hi (L:=Dh (env R) 118 L.n0 L.ro L.rt) hro;refine BH (C1 (AP hq) (AK (AP hq) (AU (off:=0) hq rfl (PA ?_))));refine⟨_,_,h1,C1 (AP h3) (AK (AP h3) (DG h3 (by simp) rfl (by simp[*]) rfl (.inl (by simp[*])) ?_))⟩;have og:∀y,(bs'.set q y)[q]?=some y:=λy=>by grind
  refine⟨rfl,l.take i++w::l.drop i,⟨_,og _,.inr ⟨id,by rw[gw hi],by grind,by simp⟩⟩,λhs=>insert_sorted hs h8 h9,λy=>?_,by grind,rfl,by grind,?_⟩
  all_goals grind[gv]
theorem eF.refl {q:Nat} {l:List Int} {s:AL} (h:NS q l s.bs):eF q l l [] s s:=⟨h,λh=>h,by simp,by simp,rfl,Ac _,λ_ _ _ _ _ h=>h⟩
theorem eF.trans {q:Nat} {l l1 l2 n1 n2:List Int} {s s1 s2:AL} (h1:eF q l l1 n1 s s1) (h2:eF q l1 l2 n2 s1 s2):eF q l l2 (n1++n2) s s2:=by
 refine⟨h2.ns,λh=>h2.srt (h1.srt h),λx=>?_,?_,by rw[h2.ts,h1.ts],CN h1.grow h2.grow,λp k n r hn h=>h2.keep p k n r hn (h1.keep p k n r hn h)⟩
 .rw[h2.mem,h1.mem,B9]
  grind
 .have:=h1.len
  have:=h2.len
  grind
theorem eF.push {q:Nat} {l:List Int} {s:AL} (h:NS q l s.bs) (b:List AV):eF q l l [] s ⟨s.bs++[b],s.ts⟩:=by
 obtain⟨x,hq,hx⟩:=h;have hql:q<s.bs.length:=(BL.1 hq).1;refine⟨⟨x,by rw[CZ hql,hq],?_⟩,λh=>h,by simp,by simp,rfl,by simp,λp k n r _ hp=>?_⟩
 .rcases hx with ⟨h1,h2⟩|⟨id,h1,h2,h3⟩
  .exact .inl ⟨h1,h2⟩
  .exact .inr ⟨id,h1,by rw[CZ (BL.1 h2).1,h2],h3⟩
 grind
def xB (R:RT) (t:Ty):Prop:=∀(x:AV),A7 t x->∀(u:Nat),u+size t<2 ^ 30->∀(q:Nat) (l:List Int) (s:AL) (L:A3),l.Pairwise (·<·)->NS q l s.bs->l.length+size t<2 ^ 19->L.ro=0->L.n0=0 ->
 ∃v s',(v=.tuple []/\∃l',eF q l l' (cZ u t) s s')/\BA (env R) L 87 [x,AB u,.ptr q 0] s v s'
theorem xD (n:List UInt8) (i:Int):SS n≠AB i:=by simp
theorem pJ {k0 i0:Int} {n0':List UInt8} {ts:List Ty} {a:AV} (ha:Ao a (AZ ts)) (hl:AY ts<2 ^ 30) (ih:∀t∈ts,xB R t) {u q b0:Nat} (hu:u+AY ts+1<2 ^ 30) {l0:List Int} (hs0:l0.Pairwise (·<·)) {s0:AL} {L:A3} (hro:L.ro=0) (hn0:L.n0=0) {Post:AV->AL->Prop} {pre:List Int}
  (hP:∀l' s',eF q l0 l' (pre++PI u k0 0 ts) s0 s'->Post (.tuple []) s') (hlen:l0.length+pre.length+AY ts<2 ^ 19) :
  ∀(j i:Nat) (l:List Int) (s:AL) (don:List Int),i+j=ts.length->s.bs[b0]?=some [AB k0,SS n0',AB i0,a]->eF q l0 l (pre++don) s0 s->don++PI u k0 i (ts.drop i)=PI u k0 0 ts->don.length+AY (ts.drop i)<=AY ts->lg R L.n0 L.ro L.rt (AB u) (.ptr q 0) (.ptr b0 0) a (AB ts.length) (AB i) s Post:=by
 have Uv:=BQ ts;intro j
 induction j with
 | zero=>
  intro i l s don hi hb hs hd _;refine AFX (Ai ?_);have h1:¬ ((i:Int)<ts.length):=by omega
  rw[Aw h1];refine Aq ?_;have h2:ts.drop i=[]:=Bt (by omega);rw[h2] at hd;simp only[PI,Gb] at hd;rw[hd] at hs;exact hP l s hs
 | succ j D7=>
  intro i l s don hi hb hs hd hsz;refine AFX (Ai ?_);have h1:((i:Int)<ts.length):=by omega
  rw[Ap h1];refine BH (AQV ?_);obtain⟨t,ht⟩:∃t,ts[i]?=some t:=⟨_,Ak (by omega)⟩;rw[drop_cons ht] at hd hsz;simp only[PI,AY] at hd hsz;refine BK ha (row:=Ag t) (by omega) (by grind[BG]) (Af t) (by omega) (Cd ?_);have ES:=A7.BZ t;have Ng:=P3 k0 i;have ZT:=HH (A5 ht);have AQW:=ih t (A5 ht) _ ES (u+Ec k0 i) (by omega);have hrl:((Ag t).map AV.pv).length=4:=by grind[Af]
  have AQX:=DW t;have Le:=MK t;have hst:=eF.push hs.ns ((Ag t).map AV.pv);have hlb:=hs.len;simp only[CD] at hlb;have hfl:=gu t (u+Ec k0 i);generalize (Ag t).map AV.pv=row at AQW hrl AQX Le hst;obtain⟨bs,tk⟩:=s;refine Bq (CG (Az bs Z4) hrl rfl (by decide) (by simp[*]) AQX (.inl (by simp[*])) ?_);have e1:(bs++[Z4]).set bs.length row=bs++[row]:=by simp
  simp only at hst hb hs;rw[e1];have gb:=Av hb row;refine Ae (Az bs row) hrl (Ae gb rfl ?_);have YA:AM (env R) 119 [.agg [AB k0,SS n0',AB i0,a],AB i] λr=>r=AB (Ec k0 i):=LK ha i
  refine AD YA ?_;rintro _ rfl;refine Ba (by omega) (by omega) ?_;have e2:((u:Int)+(Ec k0 i:Nat))=((u+Ec k0 i:Nat):Int):=by omega
  rw[e2];obtain⟨v,s1,⟨rfl,l1,h3⟩,hc⟩:=AQW q l ⟨bs++[row],tk⟩ (Dh (env R) 87 L.n0 L.ro L.rt) (hs.srt hs0) hst.ns (by omega) hro hn0;refine⟨_,_,hc,Ae (Az bs row) hrl Le,?_⟩;refine AQY (Ba (by omega) (by omega) ?_);have hall:=(hs.trans hst).trans h3;simp only[Gb,FY] at hall;have:=D7 (i+1) l1 s1 (don++cZ (u+Ec k0 i) t) (by omega) (h3.keep _ _ _ _ (xD _) gb) hall (by grind) (by grind)
  grind
mutual
theorem Wv:∀(t:Ty),ixs t=true->xB R t
 | .mk k n i ts,SW=>by
  intro x hx u hu q l s L hsd hns hl hro hn0;obtain⟨a,rfl,ha⟩:=hx;simp only[size] at hl hu;simp only[ixs,AG] at SW;have ih:=UG ts SW.2
  suffices H:∀Post:AV->AL->Prop,(∀l' s',eF q l l' (cZ u (.mk k n i ts)) s s'->Post (.tuple []) s')->xE R L.n0 L.ro L.rt (.agg [AB k,SS n,AB i,a]) (AB u) (.ptr q 0) s Post from
   m87 (H _ λl' s' h=>⟨rfl,l',h⟩)
  intro Post hP;have hst:=eF.push hns [AB k,SS n,AB i,a];have g0:=Az s.bs [AB k,SS n,AB i,a];refine AQZ (Bu (cs:=[AB k,SS n,AB i,a]) rfl (by simp[ha.ok]) (AK (AP g0) (AU (off:=0) g0 rfl (Ay ?_))))
  have tail:∀(pre l1:List Int) (s1:AL),eF q l l1 pre s s1->pre++PI u k 0 ts=cZ u (.mk k n i ts)->pre.length<=1->s1.bs[s.bs.length]?=some [AB k,SS n,AB i,a]->lq R L.n0 L.ro L.rt (AB u) (.ptr q 0) (.ptr s.bs.length 0) s1 Post:=by
   intro pre l1 s1 h1 h2 h3 h4;refine AQa (AK (AP h4) (AU (off:=3) h4 rfl (Al (n:=ts.length) (by rw[ha.A9,AQ]) ?_)));exact pJ (R:=R) (q:=q) (l0:=l) (s0:=s) (L:=L) (pre:=pre) (Post:=Post) ha (by omega) ih (by omega) hsd hro hn0 (λl' s' h=>hP l' s' (by grind)) (by omega) ts.length 0 l1 s1 [] (by omega) h4 (by grind) (by simp) (by simp)
  cases hk:(k==5) with
  | true=>
   have e2:k=5:=by grind
   subst e2;have AW1:=SW.1;simp at AW1;refine Am (AK (AP g0) (Am (AU (off:=2) g0 rfl (Am (Am (Nq (pk ?_)))))))
   by_cases hui:(u:Int)<=i
   .have:i>=(u:Int):=hui
    rw[Ap this];refine BH (AK (AP g0) (AU (off:=2) g0 rfl (QJ (by omega) (by omega) ?_)));refine EB (xA (R:=R) (w:=i-u) (q:=q) (s:=⟨s.bs++[[AB 5,SS n,AB i,a]],s.ts⟩) (l:=l) (L:=Dh (env R) 87 L.n0 L.ro L.rt) hsd hst.ns (by omega) hro hn0) ?_;rintro v s1 ⟨rfl,l1,h1⟩;refine tail [i-u] l1 s1 ?_ ?_ (by simp) (h1.keep _ _ _ _ (xD _) g0)
    .simpa using hst.trans h1
    grind[cZ]
   grind[Aq,cZ]
  | false=>
   grind[Bm,pk,Aq,cZ]
theorem UG:∀(l:List Ty),pI l=true->∀t∈l,xB R t
 | [],_,_,h=>by cases h
 | e::l,SW,a,h=>by
  simp only[pI,AG] at SW;rcases A6.1 h with h' | h'
  .rw[h']
   exact Wv e SW.1
  .exact UG l SW.2 a h'
end
theorem w7.closed {bs:List (List AV)} {l:List Int} {x:AV} (h:w7 bs l x):∃x',close bs 0 0 x=some x'/\Ao x' (AW l):=by
 rcases h with ⟨rfl,rfl⟩|⟨id,rfl,hid,hne⟩
 .exact⟨.AA [],by rfl,by simp[AW]; exact .AA _⟩
 .have hpv:∀l:List Int,Co (l.map λn=>AB n)=some (l.map λw=>PV.sc (.int .i64 w)):=by
   intro l
   induction l with
   | nil=>rfl
   | cons w l ih=>simp[*]
  have hrb:∀l:List Int,CR 1 l.length (l.map λw=>PV.sc (.int .i64 w))=AW l:=by
   intro l
   induction l with
   | nil=>rfl
   | cons w l ih=>grind[CR,AW]
  have xH:(l.map λn=>AB n).isEmpty=false:=by simp[*]
  refine⟨.pv (.list (AW l)),?_,.list _⟩
  grind[close,Ih]
theorem VO {t:Ty} (h:size t<2 ^ 18) (SW:ixs t=true) {x:AV} (hx:A7 t x):AM (env R) 43 [x] λr=>∃l:List Int,Ao r (AW l)/\l.Pairwise (·<·)/\(∀w,w∈l<->w∈cZ 0 t):=by
 have hc:=Wv (R:=R) t SW x hx 0 (by omega) 1 [];have hle:=gu t 0;generalize hn:cZ 0 t=N at *;generalize size t=z at *;obtain⟨k,n,i,ts⟩:=t;obtain⟨a,rfl,ha⟩:=hx;refine e43 (u0:=.agg [AB k,SS n,AB i,a]) (by simp[ha.close]) (AQb ?_);refine Bu (cs:=[AB k,SS n,AB i,a]) rfl (by simp[ha.ok]) (Bq (Ae (cs:=[AB k,SS n,AB i,a]) rfl rfl ?_));refine EB (hc ⟨[[AB k,SS n,AB i,a],[.AA []]],[]⟩ (Dh (env R) 43 0 0 0) List.Pairwise.nil ⟨.AA [],rfl,.inl ⟨rfl,rfl⟩⟩ (by grind) rfl rfl) ?_;rintro v s1 ⟨rfl,l',h1⟩;obtain⟨y,hy,hw⟩:=h1.ns;obtain⟨y',Bi,hr⟩:=hw.closed;refine AK ?_ (AU (off:=0) hy rfl ?_)
 .simp[*]
 .exact⟨y',Bi,l',hr,h1.srt List.Pairwise.nil,λw=>by rw[h1.mem]; simp⟩
end
end Go.Proofs.YtpgfpakdnijngaaGreatDoor
