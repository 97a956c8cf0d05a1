/-
  expand: terms without members; what is known of a bound's expansions; a bound is appended.
-/
import Derived.Test.YtpgfpakdnijngaaGreatDoorTD
import Derived.Test.YtpgfpakdnijngaaGreatDoorTC
import Derived.Test.YtpgfpakdnijngaaGreatDoorTB
import Derived.Test.YtpgfpakdnijngaaGreatDoorW1
set_option linter.all false
namespace Go.Proofs.YtpgfpakdnijngaaGreatDoor
open Go.Tel
attribute [local simp] Bw B6 KS KT AO C1 GC wO setCells CR EG DQ Cu BD alive Cb Fi Hs jo Ay DC BV GL DY D0 qY oO okB qZ qa qb qc qd fK qe qf qg qh qi qj qm qo qp qt qu okF qv qw qx qy rC U2 rD RJ RK RL RM rE rF rG rH rI rJ rK rL rM rN Gu rO oP rP rQ rR rS rT rU rV rW rX rY Cm g0 g1 xI xL xM xF xG xC lf Y4 Y5
theorem AJs {L:A3} {s:AM} {a:AV} {es:List Ty} {t z:Ty} {K:AV->AM->Prop} (ha:EM 0 s.ts 25 a (AP es)) (GZ:L.rt=0) (hl:es.length<2 ^ 38) (h:∀a' ts',EM 0 ts' 25 a' (AP (es++[t]))->ES a a' s.ts ts'->K a' ⟨s.bs,ts'⟩) :
  wFu L s 25 4 56 a (.AB [Aa z]) (AA es.length) (.agg ((Aa t).map .pv)) K:=by
 have hlen:=AR es;have hall:((AP es).all λr=>r.length==4)=true:=by grind[Gw]
 have ht:Cm ((Aa t).map AV.pv)=some (Aa t):=Kh _;refine⟨⟨Aa z,rfl,Ad z,Ct z⟩,?_,?_⟩
 .rcases ha with rfl|⟨u,rfl,_,_⟩ <;> grind[HA,rowsOf]
 .unfold AOw
  refine⟨Ct t,?_⟩
  show wO (Cm ((Aa t).map AV.pv)) _
  rw[ht];refine⟨Ad t,?_⟩;have er:AP es++[Aa t]=AP (es++[t]):=by simp[E8,AP]
  rcases ha with rfl|⟨u,rfl,h1,h2⟩
  .refine⟨⟨by omega,by omega,hall⟩,?_⟩
   refine h (.own s.ts.length (AP es++[Aa t])) _ (.inr ⟨_,by rw[er],?_,AK _⟩) ⟨by simp,λt ht _=>?_,.inr ⟨_,rfl,AN _⟩⟩
   all_goals grind
  .refine⟨⟨by omega,by omega,h1,by omega,hall⟩,?_⟩
   have hlt:u<s.ts.length:=(BL.1 h1).1;refine h (.own u (AP es++[Aa t])) _ (.inr ⟨u,by rw[er],?_,AK _⟩) ⟨by simp,λw hw hn=>?_,.inl rfl⟩
   .grind
   .rw[Fv]
    intro hh;exact hn (by rw[<-hh]; rfl)
theorem BG.CQ {a:AV} {es:List Ty} (h:BG a (AP es)):Tel.CQ a a=true:=by
 rcases h with (rfl|rfl)|⟨t,rfl⟩ <;> simp[Tel.CQ,Dw,PX]
abbrev qM (M:Nat):Int->Bool:=λi=>decide (0<=i)&&decide (i<M)
theorem vY {Aj M f v:Nat} {b:Ty} {B0:List Ty} (hv:valid b=true) (hc:BW 0 b=true) (hl:v<B0.length):ExB Aj v M (wt b) B0 (qM M) (Ao (Ac Aj) f b):=by
 refine⟨λB=>Fk f b B,λB r hB h hM=>?_⟩;have hBl:=hB.length_le
 have hU:∀q:Int->Bool,Ej q b=true:=λq=>by
  have:=II (q:=q) (σ:=[]) (λx hx=>by grind) b 0 hv
  grind[DT]
 have AVJ:inp b=true:=by
  have:=(F8 [] b 0 hv).2.2.2
  grind[DT]
 have hlen:=Kb (Au:=Ac Aj) (by rfl) f b B r h;refine⟨by grind,λc KD=>?_⟩;obtain⟨h1,h2⟩:=IC f b B M (qM M) r (λi h3 h4=>by grind) (hU _) h hM c KD;obtain⟨h3,_⟩:=IC f b B M (λi=>qM M i&&!(i==(v:Int))) r (λi h3 h4=>by grind[Bool.not_eq_true']) (hU _) h hM c KD;have h5:=λinv=>Ou (q:=λi=>qM M i&&!(i==(v:Int))) (v:=v) (by simp) c inv h3
 exact⟨h1,λinv=>(h5 inv).1,(h5 true).2,h2,Oz f b B r AVJ h c KD⟩
section
variable {R:RT}
theorem ML {e:Nat} {k i:Int} {n:List UInt8} {a:AV} {rows:List (List PV)} (ha:BG a rows) {s:AM} {QR:QT} (b:Bool) (hb:(k==0||k==2)=b) (h:lJ R 0 0 0 (.ptr e 0) (.ptr s.bs.length 0) (.AB []) (BB true) (AA k) (BB b) ⟨s.bs++[[AA k,SS n,AA i,a]],s.ts⟩ QR):cI R 0 0 0 (.ptr e 0) (.agg [AA k,SS n,AA i,a]) s QR:=by
 have g0:=Am s.bs [AA k,SS n,AA i,a];refine AOx (CT (cs:=[AA k,SS n,AA i,a]) rfl (by simp[ha.ok]) (AW (Ak g0) (Ag (off:=0) g0 rfl (Bd ?_))));cases h0:(k==0) with
 | true=>
  simp_all
 | false=>
  simp_all
theorem ACO {e Aj:Nat} {T:Ty} {k i:Int} {n:List UInt8} {ts:List Ty} (hT:ren T=.mk k n i ts) (hk:(k==0||k==2)=true) {a:AV} (ha:BG a (AP ts)) {s:AM} {d:AV} (gE:s.bs[e]?=some [d,AA Aj]) {QR:QT} (h:∀w,Res w (bif Ac Aj 1 then none else some [T])->QR w ⟨s.bs++[[AA k,SS n,AA i,a]],s.ts⟩):cI R 0 0 0 (.ptr e 0) (.agg [AA k,SS n,AA i,a]) s QR:=by
 have g0:=Am s.bs [AA k,SS n,AA i,a];have hr:BM (ren T) (.agg [AA k,SS n,AA i,a]):=by rw[hT]; exact⟨a,rfl,ha⟩
 refine ML ha true hk (cJ (BP (Af g0 rfl (Gj hr ?_))));exact cH (l:=[T]) (.inl (by grind[Bq,AP,Av.AB])) (Ah gE _) h
theorem ACP {e:Nat} {k i:Int} {n:List UInt8} {a:AV} {rows:List (List PV)} (ha:BG a rows) {s:AM} {QR:QT} (h0:k≠0) (h2:k≠2) (h3:k≠3) (h4:k≠4) (h6:k≠6) {d:AV} {Aj:Nat} (gE:s.bs[e]?=some [d,AA Aj]) (h:∀w,Res w (some [])->QR w ⟨s.bs++[[AA k,SS n,AA i,a]],s.ts⟩):cI R 0 0 0 (.ptr e 0) (.agg [AA k,SS n,AA i,a]) s QR:=by
 have e0:(k==0)=false:=by grind
 have e2:(k==2)=false:=by grind
 have e3:(k==3)=false:=by grind
 have e4:(k==4)=false:=by grind
 have e6:(k==6)=false:=by grind
 refine ML ha false (by grind) (cJ (BE (Bd ?_)));rw[e4];refine BE (Bd ?_);rw[e3];refine BE (Bd ?_);rw[e6];refine BE ?_;exact cH (l:=[]) (.inl (by grind[Bq,AP,Av.AB])) (Ah gE _) (by grind)
end
def VD (Aj:Nat) (ex:Ty->List Ty->FV) (b body:Ty) (B:List Ty):FV:=match ex (sub B.length 0 body) (B++[b]) with
 | (none,B1)=>(none,B1)
 | (some l,B1)=>match CX (Ac Aj) (Bl (Ac Aj) (ex b) B.length) l [] B1 with
  | (none,B2)=>(none,B2)
  | (some out,B2)=>(bif Ac Aj out.length then none else some out,B2)
section
variable {R:RT}
theorem WV (hn:NN R) {e Aj M f:Nat} (Hg:Aj<2 ^ 20) (hM:M<2 ^ 37) {b C0:Ty} {σ:List Nat} (J9:valid b=true) (hcb:BW 0 b=true) (hv:valid C0=true) (hc:BW (1+σ.length) C0=true) (hsz:size C0<2 ^ 38)
  {B:List Ty} {S:Nat} (hW:S<2 ^ 37) (hlS:∀l,(Ao (Ac Aj) f (inst (B.length::σ) 0 C0) (B++[b])).1=some l->∀t∈l,size t+BH (·==(B.length:Int)) t*wt b<=S) (hσ:∀x∈σ,x<B.length)
  (Uh:∀(B:List Ty),(Ao (Ac Aj) f b B).2.length<=M->∀x,BM (ren b) x->∀s,Bj s->Ui R e Aj 44 [x] (Ao (Ac Aj) f b B) B s)
  (ihy:(Ao (Ac Aj) f (inst (B.length::σ) 0 C0) (B++[b])).2.length<=M->∀x,BM (ren (inst (B.length::σ) 0 C0)) x->∀s,Bj s->Ui R e Aj 44 [x] (Ao (Ac Aj) f (inst (B.length::σ) 0 C0) (B++[b])) (B++[b]) s)
  (od:(VD Aj (Ao (Ac Aj) f) b (inst σ 1 C0) B).2.length<=M) {n:List UInt8} {i:Int} {x:AV} (hx:BM (ren (.mk 6 n i [b,inst σ 1 C0])) x) {s:AM} (hs:Bj s):Ui R e Aj 44 [x] (VD Aj (Ao (Ac Aj) f) b (inst σ 1 C0) B) B s:=by
 intro L d hro GZ hE hd;have le:=(BL.1 hE).1;have same:s.bs.set e [d,AA Aj]=s.bs:=by grind[List.set_getElem_self]
 have O4:sub B.length 0 (inst σ 1 C0)=inst (B.length::σ) 0 C0:=H9 B.length σ C0 0 hv (by omega);have AVL:ren (.mk 6 n i [b,inst σ 1 C0])=.mk 6 n i [b,ren (inst σ 1 C0)]:=by grind[Ga,Bq,I4]
 have hxc:=hx;rw[AVL] at hx;obtain⟨a,rfl,ha⟩:=hx;obtain⟨_,_,hxi⟩:=hxc.cells;generalize Tp:VD Aj (Ao (Ac Aj) f) b (inst σ 1 C0) B=o at od ⊢;rw[VD,O4] at Tp;have hpy:=Fk (Au:=Ac Aj) f (inst (B.length::σ) 0 C0) (B++[b]);have hall:=IC (Au:=Ac Aj) f (inst (B.length::σ) 0 C0) (B++[b]) M (qM M);have hpat:=Oz (Au:=Ac Aj) f (inst (B.length::σ) 0 C0) (B++[b]);have P9:=Kb (Au:=Ac Aj) (by rfl) f (inst (B.length::σ) 0 C0) (B++[b]);obtain⟨z1,z2,z3,z4⟩:=F8 (B.length::σ) C0 0 hv;rw[z3] at hall;have hU:Ej (λi=>qM M i&&decide (i<((B++[b]).length:Nat))) (inst (B.length::σ) 0 C0)=true->True:=λ_=>trivial
 rcases hg:Ao (Ac Aj) f (inst (B.length::σ) 0 C0) (B++[b]) with ⟨r,B1⟩
 rw[hg] at Tp ihy hpy hall hpat P9 hlS;simp only at Tp ihy hpy hall hpat P9 hlS;have hcp:∀l,B1<+:(CX (Ac Aj) (Bl (Ac Aj) (Ao (Ac Aj) f b) B.length) l [] B1).2:=λl=>ID (λc B=>Ka (λB=>Fk f b B) _ c B) l [] B1
 have VC:B1.length<=M:=by grind
 have hBl:B.length+1<=B1.length:=by grind
 refine m44 (by rfl) ?_;rw[hro,GZ];have g0:=Am s.bs [AA 6,SS n,AA i,a];have gE:=Ah hE [AA 6,SS n,AA i,a];have hT:(s.bs++[[AA 6,SS n,AA i,a]]).take s.bs.length=s.bs.set e [d,AA Aj]:=by grind
 have hok:Bj ⟨s.bs++[[AA 6,SS n,AA i,a]],s.ts⟩:=Bj.app (s:=s) hs (hxi _);refine ML ha false rfl (cJ (BE (Bd (BE (Bd (BE (Bd (BP ?_))))))));generalize s.bs++[[AA 6,SS n,AA i,a]]=bs at g0 gE hT hok;have hZ:BM (.mk 0 [] 0 []) (.agg [(AA 0),(SS []),(AA 0),(.AB [])]):=⟨.AB [],rfl,.inl (.AB _)⟩;refine FG (Ak gE) (AW (Ak gE) (Ag (off:=0) gE rfl (BI (n:=B.length) (by rw[hd.A9.BN,AR]) (FG (Ak gE) (AW (Ak gE) (Ag (off:=0) gE rfl (AW (Ak g0) (Ag (off:=3) g0 rfl ?_))))))));refine CH ha (row:=Aa b) (by omega) rfl (Ad _) (by omega) (Di (BI (n:=B.length) (by rw[hd.A9.BN,AR]) (Gj hZ ⟨⟨rfl,rfl,rfl,by decide⟩,AJs hd rfl (by omega) λd2 O5 w1 w2=>?_⟩)));refine FG (Ak gE) (AW (Ak gE) (Dr gE (by simp) w1.A9.cells (AK _) w1.A9.ok (.inl (AK _)) ?_));have AVM:[d,AA Aj].set 0 d2=[d2,AA Aj]:=rfl;rw[AVM];have hne:e≠s.bs.length:=by omega
 have gE2:(bs.set e [d2,AA Aj])[e]?=some [d2,AA Aj]:=Be gE;have g02:(bs.set e [d2,AA Aj])[s.bs.length]?=some [AA 6,SS n,AA i,a]:=Bm g0 hne;have R6:(bs.set e [d2,AA Aj]).take s.bs.length=s.bs.set e [d2,AA Aj]:=by grind[Gk]
 have AJt:Bj ⟨bs.set e [d2,AA Aj],O5⟩:=Bj.set (s:=⟨bs,s.ts⟩) hok (by simp[Ab,Ai,w1.A9.Ai]) _;generalize bs.set e [d2,AA Aj]=b2 at gE2 g02 R6 AJt;refine AW (Ak g02) (Ag (off:=3) g02 rfl (CH ha (row:=Aa (ren (inst σ 1 C0))) (by omega) rfl (Ad _) (by omega) (Di ?_)));refine AG (Ke hn B.length (by omega)) ?_;rintro _ rfl;have Zz:Fm (2 ^ 40) (inst σ 1 C0)=true:=by grind[Mt,II]
 have AVN:size (inst σ 1 C0)<2 ^ 38:=by grind[F8]
 refine AG (RS (v:=B.length) AVN Zz (TZ σ C0 1 hv) (A5.Bu _)) ?_;rintro y hy;rw[O4] at hy;obtain⟨w,s',⟨d3,Q6,q1,q2,q3,rfl⟩,q4⟩:=ihy VC y hy.Km ⟨b2,O5⟩ AJt (Cu (env R) 44 0 0 0) d2 rfl rfl gE2 w1;have hT3:(b2.set e [d3,AA Aj]).take s.bs.length=s.bs.set e [d3,AA Aj]:=by simp[*,Gk]
 have gE3:(b2.set e [d3,AA Aj])[e]?=some [d3,AA Aj]:=Be gE2;have hch:ES d d3 s.ts Q6:=w2.trans q3;have AVO:Bj ⟨b2.set e [d3,AA Aj],Q6⟩:=Bj.set (s:=⟨b2,O5⟩) AJt (by simp[Ab,Ai,q2.A9.Ai]) _;have Ji:Tel.CQ a a=true:=BG.CQ (es:=[b,ren (inst σ 1 C0)]) ha;refine⟨_,_,q4,?_⟩
 have conds:∀{K:Prop} ,K->(BD ⟨b2,O5⟩ (.ptr s.bs.length 0) 3 λv=>Tel.CQ v (.ptr s.bs.length (0+3))=true)/\(EG (env R) ⟨b2,O5⟩ none (.ptr s.bs.length (0+3)) λv=>Tel.CQ v a=true)/\(Cl ⟨b2,O5⟩ 4 a (AA 1) λv=>Tel.CQ v (.C8 (Aa (ren (inst σ 1 C0))) 0)=true)/\(EG (env R) ⟨b2,O5⟩ (some 4) (.C8 (Aa (ren (inst σ 1 C0))) 0) λv=>Tel.CQ v (.agg ((Aa (ren (inst σ 1 C0))).map .pv))=true)/\K:=λhK=>
  ⟨AW (Ak g02) (Ec _ _),Ag (off:=3) g02 rfl Ji,CH ha (row:=Aa (ren (inst σ 1 C0))) (by omega) rfl (Ad _) (by omega) (by simp[Tel.CQ,Z6]),Di (O2 _),hK⟩
 cases r with
 | none=>
  cases q1;simp only at Tp;subst Tp;exact CC rfl (CC rfl (conds (BE (R7 (Ek hs hT3 (q2.A9.Ai _) (r:=none) rfl λw hw=>⟨d3,Q6,hw,q2,hch,rfl⟩)))))
 | some l=>
  obtain⟨a3,rfl,ha3⟩:=q1;refine CC rfl (CC rfl (conds (BP ?_)));simp only at Tp;have hll:l.length<=Aj:=by grind
  have Ug:=hall l (λi h1 h2=>by grind) (II (λx hx=>by
   simp only[AD,CZ,B7,CI,Ce]
   grind) C0 0 hv) rfl VC
  have Rq:=hpat l z4 rfl;have hvB:(B++[b])[B.length]?=some b:=by simp
  have hxb:ExB Aj B.length M (wt b) (B++[b]) (qM M) (Ao (Ac Aj) f b):=vY J9 hcb (by simp);have hrb:ren b=b:=I4 b J9;have hsb:=ku (R:=R) hn (e:=e) (S:=S) (λi hi=>by grind) Hg hW hxb hvB (λB s hs' _ eF=>Uh B eF _ (by rw[hrb]; exact(A5.Bu b).Km) s hs');have FH:∀o,CX (Ac Aj) (Bl (Ac Aj) (Ao (Ac Aj) f b) B.length) l [] B1=o->o.2.length<=M:=by grind
  obtain⟨w4,s4,⟨d4,ts4,k1,k2,k3,rfl⟩,k4⟩:=ACE (R:=R) hn (e:=e) (M:=M) (W:=wt b) (S:=S) (B0:=B++[b]) (q:=qM M) (λi hi=>by grind) Hg hW (λB=>Fk f b B) hll ha3 (λt ht=>by
   obtain⟨y1,y2⟩:=Ug t ht;exact⟨y1,Rq t ht,hlS l rfl t ht⟩) hsb hpy (FH _ rfl) AVO (Cu (env R) 44 0 0 0) d3 rfl rfl gE3 q2
  have hT4:((b2.set e [d3,AA Aj]).set e [d4,AA Aj]).take s.bs.length=s.bs.set e [d4,AA Aj]:=by simp[*,Gk]
  have gE4:((b2.set e [d3,AA Aj]).set e [d4,AA Aj])[e]?=some [d4,AA Aj]:=Be gE3;have AO0:=hch.trans k3;refine⟨_,_,k4,?_⟩;rcases hk:CX (Ac Aj) (Bl (Ac Aj) (Ao (Ac Aj) f b) B.length) l [] B1 with ⟨ro,B2⟩
  rw[hk] at k1 k2 Tp;cases ro with
  | none=>
   cases k1;simp only at Tp;subst Tp;exact CC rfl (CC rfl (R7 (Ek hs hT4 (k2.A9.Ai _) (r:=none) rfl λw hw=>⟨d4,ts4,hw,k2,AO0,rfl⟩)))
  | some out=>
   obtain⟨a5,rfl,ha5⟩:=k1;simp only at Tp;subst Tp;exact CC rfl (CC rfl (cH ha5 gE4 λw hw=>Ek hs hT4 (k2.A9.Ai _) hw λw hw=>⟨d4,ts4,hw,k2,AO0,rfl⟩))
end
def ex2:List Nat->Nat
 | [_,c]=>c
 | _=>0
mutual
def lv:Ty->Nat
 | .mk k _ _ ts=>bif k==7||k==5 then 1 else bif k==3 then(lvl ts).sum else bif k==4 then(lvl ts).foldr max 0 else bif k==6 then ex2 (lvl ts) else 0
def lvl:List Ty->List Nat
 | []=>[]
 | t::l=>lv t::lvl l
end
theorem Yv:∀l:List Ty,lvl l=l.map lv
 | []=>rfl
 | t::l=>by rw[lvl,Yv l]; rfl
theorem max_mem:∀{l:List Nat} {n:Nat},n∈l->n<=l.foldr max 0
 | a::l,n,h=>by
  rw[List.foldr_cons];rcases Az.1 h with rfl|h
  .omega
  .have:=max_mem h
   omega
mutual
theorem R8 (σ:List Nat):∀(t:Ty) (u:Nat),valid t=true->lv (inst σ u t)=lv t
 | .mk k n i ts,u,hv=>by
  rcases Dk σ u hv with ⟨rfl,rfl,rfl,h0,h1,⟨v,h2,h3⟩|h3⟩|⟨b5,h3⟩
  .rw[h3]
   rfl
  .rw[h3]
  .simp only[valid,AD] at hv
   rw[h3,lv,lv,cK σ ts u k 0 hv.2]
theorem cK (σ:List Nat):∀(l:List Ty) (u:Nat) (k:Int) (j:Nat),Ar l=true->lvl (C9 σ u k j l)=lvl l
 | [],_,_,_,_=>rfl
 | t::l,u,k,j,hv=>by
  simp only[Ar,AD] at hv;rw[C9,lvl,lvl,R8 σ t _ hv.1,cK σ l u k (j+1) hv.2]
end
mutual
theorem cL {m q:Int->Bool} {b:Ty} (hb:BH q b=0):∀(t:Ty) (k:Nat),BH q (J5 m b t k)<=BH q t
 | .mk c n i ts,k=>by
  have ih:=WW (m:=m) hb ts k
  grind[J5,BH]
theorem WW {m q:Int->Bool} {b:Ty} (hb:BH q b=0):∀(l:List Ty) (k:Nat),CW q (Jf m b l k)<=CW q l
 | [],_=>AN _
 | t::l,k=>by
  rw[Jf];cases decide (k<BH m t) with
  | true=>
   have:=cL (m:=m) hb t k
   grind[CW]
  | false=>
   have:=WW (m:=m) hb l (k-BH m t)
   grind[CW]
end
section
variable {Au:Nat->Bool}
theorem WX {ex:List Ty->FV} {q:Int->Bool} {v:Nat} (hx:∀B,B.length<=(ex B).2.length) {lo M:Nat} (hr:∀B r,lo<=B.length->(ex B).1=some r->(ex B).2.length<=M->∀c∈r,BH q c=0) :
  ∀(f:Nat) (t:Ty) (B r:List Ty),lo<=B.length->(CB Au ex v f t B).1=some r->(CB Au ex v f t B).2.length<=M->∀p∈r,BH q p<=BH q t
 | 0,t,B,r,_,h,_=>by grind[CB]
 | f+1,t,B,r,hlo,h,hM=>by
  have h1:=hx B;have h2:=hr B;rw[CB] at h hM;cases ho:Cz v false t with
  | false=>grind
  | true=>
   rw[ho] at h hM;simp only[AH] at h hM;rcases he:ex B with ⟨_|cs,B1⟩
   .grind
   .rw[he] at h hM h1 h2
    simp only at h hM h1 h2;have h3:=IB (Au:=Au) (g:=λc B=>CB Au ex v f (J5 (·==(v:Int)) c t 0) B) (λc B=>He hx v f _ B) cs [] B1;have h4:=h2 cs hlo rfl (by omega);refine JQ (λc B=>He hx v f _ B) (lo:=lo) cs [] B1 r ?_ (by omega) h hM (by simp);intro c hc B' r' ABd h' eF p hp;exact A6 (WX hx hr f _ B' r' ABd h' eF p hp) (cL (h4 c hc) t 0)
theorem cM:∀(f:Nat) (t:Ty) (σ:List Nat) (B:List Ty) (M v:Nat) (r:List Ty),valid t=true->BW σ.length t=true->v<B.length->(∀x∈σ,x<B.length) ->
  (Ao Au f (inst σ 0 t) B).1=some r->(Ao Au f (inst σ 0 t) B).2.length<=M->∀p∈r,BH (·==(v:Int)) p<=lv t
 | 0,_,_,_,_,_,_,_,_,_,_,h,_=>by cases h
 | f+1,.mk k n i ts,σ,B,M,v,r,hv,hc,hvB,hσ,h,hM=>by
  have ih:=cM f;have hf:=λt B=>JR (Au:=Au) f t B
  have Lj:=hv;simp only[valid,AD] at hv
  have part:∀(hk:k≠6) (ZX:k≠5),∀t∈ts.map (inst σ 0),∀(B' r:List Ty),B.length<=B'.length->(Ao Au f t B').1=some r->(Ao Au f t B').2.length<=M->∀p∈r,BH (·==(v:Int)) p<=lv t:=by
   intro hk ZX t ht B' r hl h hM;obtain⟨t0,Uk,rfl⟩:=Cp.1 ht;rw[R8 σ t0 0 (Bs hv.2 Uk)];exact ih t0 σ B' M v r (Bs hv.2 Uk) (FF hk (DI hc ZX) Uk) (by omega) (λx hx=>Fu (hσ x hx) hl) h hM
  have emap:Ar ts=true->(ts.map (inst σ 0)).map lv=ts.map lv:=by grind[List.map_congr_left,R8,Bs]
  rcases Dk σ 0 Lj with ⟨rfl,rfl,rfl,_,_,⟨x,h2,h3⟩|h3⟩|⟨b5,h3⟩
  .rw[h3,Ao] at h
   have:(7:Int)==7:=rfl;simp only[show((7:Int)==7)=true from rfl,Df,AH] at h;cases hb:Au 1 with
   | true=>grind
   | false=>
    rw[hb] at h;cases h;intro p hp;rw[DF.1 hp,BH,lv];simp only[show((7:Int)==7)=true from rfl,AH,show((5:Int)==7||(5:Int)==5)=true from rfl];cases (x:Int)==(v:Int) <;> simp
  .rw[h3,Ao] at h
   simp only[show((5:Int)==0||(5:Int)==2||(5:Int)==7)=false from rfl,show((5:Int)==4)=false from rfl,show((5:Int)==3)=false from rfl,show((5:Int)==6)=false from rfl,AE] at h;cases hb:Au 0 with
   | true=>grind
   | false=>grind
  .rw[h3,Ao] at h hM
   cases h0:k==0||k==2||k==7 with
   | true=>
    grind[Gf,BH]
   | false=>
    rw[h0] at h hM;simp only[AE] at h hM;cases h4:k==4 with
    | true=>
     have hk:k=4:=by grind
     subst hk;rw[h4,Ei (k:=4) (by decide)] at h hM;simp only[AH] at h hM
     have key:=MC hf (P:=λp=>BH (·==(v:Int)) p<=lv (.mk 4 n i ts)) (lo:=B.length) (M:=M) (ts.map (inst σ 0)) [] true B (λt hm B' r hl h hM p hp=>A6 (part (by decide) (by decide) t hm B' r hl h hM p hp) (by
      have h5:lv t∈(ts.map (inst σ 0)).map lv:=Fx hm;rw[emap hv.2] at h5;simp[*,lv,Yv,max_mem])) (AN _)
     grind
    | false=>
     rw[h4] at h hM;simp only[AE] at h hM;cases Ml:k==3 with
     | true=>
      have hk:k=3:=by grind
      subst hk;rw[Ml,Ei (k:=3) (by decide)] at h hM;simp only[AH] at h hM;have key:=λr=>Ow hf (P:=λw p=>BH (·==(v:Int)) p<=w) (w:=lv) (lo:=B.length) (M:=M) (ts.map (inst σ 0)) [] [] B r (part (by decide) (by decide)) (AN _)
      rcases hs:EI (Ao Au f) (ts.map (inst σ 0)) [] B with ⟨_|ls,B1⟩
      .grind
      .rw[hs] at h hM key
       simp only at h hM key;cases he:ls.any List.isEmpty with
       | true=>
        grind
       | false=>
        rw[he] at h hM;simp only[AE] at h hM;cases tN:DR Au ls [[]] with
        | none=>grind
        | some all=>
         rw[tN] at h hM;simp only at h hM;cases hb:Au all.length with
         | true=>grind
         | false=>
          rw[hb] at h;cases h;intro p hp;obtain⟨a,ha,rfl⟩:=Cp.1 hp;have h5:=QC (q:=(·==(v:Int))) ls _ _ all 0 (key ls rfl hM AZ) tN (by simp[CW]) a ha
          grind[BH,lv,Yv]
     | false=>
      rw[Ml] at h hM;simp only[AE] at h hM;cases YN:k==6 with
      | false=>
       grind
      | true=>
       have:k=6:=by grind
       subst this;rcases Jr hv.1 with h' | h' | h' | h' | h' | h' | ⟨_,rfl,rfl,b,body,rfl,hcb⟩
       iterate 6 exact absurd h' (by simp)
       simp only[Ar,AD] at hv;obtain⟨_,J9,Lp,_⟩:=hv;have eb:inst σ (0+EW 6 0) b=b:=HF σ b 0 J9 hcb
       have hcy:BW (1+σ.length) body=true:=by
        have:=DI hc (by decide);simp only[C7,AD] at this;have h2:=this.2.1;rw[Kv];exact h2
       have O4:sub B.length 0 (inst σ 1 body)=inst (B.length::σ) 0 body:=H9 B.length σ body 0 Lp (by omega);have e1:inst σ (0+EW 6 (0+1)) body=inst σ 1 body:=rfl;rw[YN] at h hM;simp only[AH,C9,eb,eE] at h hM;rw[e1,O4] at h hM;have hfl:=JR (Au:=Au) f b
       have hbc:∀B' r,B.length<B'.length->(Ao Au f b B').1=some r->(Ao Au f b B').2.length<=M->∀c∈r,BH (·==(v:Int)) c=0:=by
        intro B' r hl h hM c KD
        have hU:∀q:Int->Bool,Ej q b=true:=λq=>by
         have:=II (q:=q) (σ:=[]) (λx hx=>by grind) b 0 J9
         grind[DT]
        have h5:=IC f b B' M (λi=>!(i==(v:Int))) r (λi h3 h4=>by grind) (hU _) h hM c KD;exact(Ou (q:=λi=>!(i==(v:Int))) (v:=v) (by simp) c true h5.1).2
       have hy:=λl=>ih body (B.length::σ) (B++[b]) M v l Lp (by grind) (by grind) (λx hx=>by
        rw[B7,CI,Ce]
        grind)
       have AES:=JR (Au:=Au) f (inst (B.length::σ) 0 body) (B++[b]);generalize Ao Au f (inst (B.length::σ) 0 body) (B++[b])=o at h hM hy AES;rcases o with ⟨_|l,B1⟩
       .cases h
       .simp only at h hM hy AES
        have h6:=IB (Au:=Au) (g:=Bl Au (Ao Au f b) B.length) (λa B'=>I2 hfl B.length a B') l [] B1;have key:=λr=>JQ (Au:=Au) (g:=Bl Au (Ao Au f b) B.length) (λa B'=>I2 hfl B.length a B') (P:=λp=>BH (·==(v:Int)) p<=lv body) (lo:=B.length+1) (M:=M) l [] B1 r
        generalize CX Au (Bl Au (Ao Au f b) B.length) l [] B1=o2 at h hM h6 key;rcases o2 with ⟨_|out,B2⟩
        .cases h
        .simp only at h hM h6 key
         cases hb:Au out.length with
         | true=>grind
         | false=>
          rw[hb] at h;cases h;have e2:lv (.mk 6 [] 0 [b,body])=lv body:=rfl;rw[e2];have hll:=hy l rfl (by omega);refine key r ?_ (by grind) rfl hM (by simp);intro a ha B' r' hlo h5 h7 p hp;have ha1:=hll a ha;rw[Bl] at h5 h7;cases ho:Cz B.length true a with
          | true=>
           grind
          | false=>
           rw[ho] at h5 h7;exact A6 (WX hfl (lo:=B.length+1) (M:=M) (λB' r hl=>hbc B' r (by omega)) _ a B' r' hlo h5 h7 p hp) ha1
end
section
variable {Au:Nat->Bool}
theorem Tq {α:Type} {g:α->List Ty->FV} (hg:∀a B,(g a B).2=B):∀(l:List α) (out B:List Ty),(CX Au g l out B).2=B
 | [],_,_=>rfl
 | a::l,out,B=>by
  have h:=hg a B;rw[CX];rcases hr:g a B with ⟨_|r,B1⟩
  .grind
  .rw[hr] at h
   simp only at h ⊢;subst h;cases Au (out++r).length with
   | true=>rfl
   | false=>exact Tq hg l _ _
theorem vZ {ex:List Ty->FV} {a v:Nat} (ha:∀B,(ex B).2.length<=B.length+a) (f:Nat) (hf:f<=1) (t:Ty) (B:List Ty):(CB Au ex v f t B).2.length<=B.length+a:=by
 rcases f with _|f
 all_goals grind[CB,Tq]
theorem cN {ex:List Ty->FV} {a v:Nat} (ha:∀B,(ex B).2.length<=B.length+a) (hc:∀B r,(ex B).1=some r->r.length<=1):∀(f:Nat) (t:Ty) (B:List Ty),(CB Au ex v f t B).2.length<=B.length+a*f
 | 0,t,B=>by grind[CB]
 | f+1,t,B=>by
  have h:=ha B;have h2:=hc B;rw[Rm,CB];cases Cz v false t with
  | false=>simp
  | true=>
   simp only[AH];rcases hr:ex B with ⟨_|cs,B1⟩
   .grind
   .rw[hr] at h h2
    simp only at h h2 ⊢;have h3:=h2 cs rfl;rcases cs with _|⟨x,_|⟨y,cs⟩⟩
    .grind[CX]
    .have ih:=cN (v:=v) ha hc f (J5 (·==(v:Int)) x t 0) B1
     rw[CX];rcases Pt:CB Au ex v f (J5 (·==(v:Int)) x t 0) B1 with ⟨_|r,B2⟩
     .grind
     .rw[Pt] at ih
      simp only at ih ⊢;cases Au ([]++r).length with
      | true=>grind
      | false=>grind[CX]
    grind
end
theorem WY {α:Type} {Aj a q K:Nat} {B0:List Ty} {g:α->List Ty->FV} (hpre:∀x B,B<+:(g x B).2):∀(l:List α) (out B:List Ty),(∀x∈l,∀B,B0<+:B->(∀r,(g x B).1=some r->r.length=K/\r.length<=Aj+1/\(g x B).2.length+a<=B.length+a*K)/\((g x B).1=none->(g x B).2.length<=B.length+q))->B0<+:B->out.length<=Aj ->
  (∀r,(CX (Ac Aj) g l out B).1=some r->r.length=out.length+l.length*K/\(CX (Ac Aj) g l out B).2.length+a*l.length<=B.length+a*(K*l.length)) /\
  ((CX (Ac Aj) g l out B).1=none->∃m,out.length+m*K<=Aj/\((CX (Ac Aj) g l out B).2.length<=B.length+a*(m*K)+q\/(K<=Aj+1/\(CX (Ac Aj) g l out B).2.length<=B.length+a*(m*K)+a*K)))
 | [],out,B,_,_,_=>by grind[CX]
 | x::l,out,B,hg,hB,ho=>by
  have h1:=hg x (by simp) B hB;have hp:=hpre x B;rw[CX];rcases hr:g x B with ⟨_|r,B1⟩
  .rw[hr] at h1
   refine⟨λr h=>(by cases h),λ_=>⟨0,by omega,.inl ?_⟩⟩
   grind
  .rw[hr] at h1 hp
   obtain⟨e1,e2,e3⟩:=h1.1 r rfl;simp only at e3 hp ⊢;cases hb:Ac Aj (out++r).length with
   | true=>
    refine⟨λr h=>(by cases h),λ_=>⟨0,by omega,.inr ⟨by omega,?_⟩⟩⟩
    grind
   | false=>
    simp only[AE];have hb':out.length+r.length<=Aj:=by grind
    obtain⟨i1,i2⟩:=WY hpre l (out++r) B1 (λy hy=>hg y (by grind)) (hB.trans hp) (by grind);refine⟨λs hs=>?_,λhs=>?_⟩
    .grind[Nat.mul_add]
    .obtain⟨m,j1,j2⟩:=i2 hs
     rw[B7] at j1;refine⟨m+1,by grind,?_⟩
     grind
def qF (f:Nat):Nat:=f+min f 6*66
theorem WZ {c f:Nat} (hc:2<=c) (h:c ^ f<=33):f<=5:=by
 rcases FK f 6 with h1|h1
 .omega
 .have h2:c ^ 6<=c ^ f:=Nat.pow_le_pow_right (by omega) h1
  have h3:2 ^ 6<=c ^ 6:=Nat.pow_le_pow_left hc 6;omega
structure ExC (v a c:Nat) (B0:List Ty) (ex:List Ty->FV):Prop where
 pre:∀B,B<+:(ex B).2
 len:∀B,(ex B).2.length<=B.length+a
 res:∀B r,B0<+:B->(ex B).1=some r->r.length=c/\∀x∈r,BH (·==(v:Int)) x=0/\Cz v true x=false/\pat x=true
theorem Wa {ex:List Ty->FV} {v a c:Nat} {B0:List Ty} (hx:ExC v a c B0 ex) (hc:2<=c):∀(f:Nat) (t:Ty) (B:List Ty),BH (·==(v:Int)) t=f->Cz v true t=false->pat t=true->B0<+:B ->
  (∀r,(CB (Ac 32) ex v f t B).1=some r->r.length=c ^ f/\r.length<=32+1/\(CB (Ac 32) ex v f t B).2.length+a<=B.length+a*c ^ f)/\((CB (Ac 32) ex v f t B).1=none->(CB (Ac 32) ex v f t B).2.length<=B.length+a*qF f)
 | 0,t,B,_,_,_,_=>by grind[CB]
 | f+1,t,B,U7,hoc,hpt,hB=>by
  have P9:=λr=>QF (Aj:=32) (ex:=ex) (v:=v) (f+1) t B r
  have h1:=hx.len B;have h2:=hx.res B;have hp:=hx.pre B;have ho:Cz v false t=true:=by grind[YW]
  rw[CB,ho] at P9 ⊢;simp only[AH] at P9 ⊢
  have hq:a*qF f+a<=a*qF (f+1):=by
   rw[<-Rm];refine EY _ ?_
   grind[qF]
  rcases hr:ex B with ⟨_|cs,B1⟩
  .grind
  .rw[hr] at h1 h2 hp P9
   simp only at h1 h2 hp P9 ⊢;obtain⟨Ba,hcs⟩:=h2 cs hB rfl
   obtain⟨i1,i2⟩:=WY (Aj:=32) (a:=a) (q:=a*qF f) (K:=c ^ f) (B0:=B0) (g:=λx B=>CB (Ac 32) ex v f (J5 (·==(v:Int)) x t 0) B) (λx B=>Hf hx.pre v f _ B) cs [] B1 (by
    intro x hxm B' hB';obtain⟨x1,x2,x3⟩:=hcs x hxm;obtain⟨r1,r2⟩:=R1 (m:=(·==(v:Int))) (b:=x) t 0 (by omega);exact Wa hx hc f _ B' (by omega) (YX x2 t 0 hoc) (R3 x3 t 0 hpt) hB') (hB.trans hp) (by simp)
   refine⟨λr h=>?_,λh=>?_⟩
   .obtain⟨j1,j2⟩:=i1 r h
    refine⟨?_,P9 r h,?_⟩
    .rw[j1,Ba,Rn,Ce,Cg,Nat.mul_comm]
    .have e1:a*(c ^ f*cs.length)=a*c ^ (f+1):=by rw[Ba,Rn]
     have e2:a*2<=a*cs.length:=EY _ (by omega);omega
   .obtain⟨m,j1,j2⟩:=i2 h
    rw[Ce,Cg] at j1;have e1:a*(m*c ^ f)<=a*32:=EY _ j1;rcases Nat.eq_zero_or_pos m with rfl|hm
    .rcases j2 with j2|⟨j2,j3⟩
     .omega
     .have hf5:=WZ hc j2
      have e2:a*c ^ f<=a*33:=EY _ j2;have e3:a*34<=a*qF (f+1):=EY _ (by grind[qF]);omega
    .have hk:c ^ f<=33:=by
      have:1*c ^ f<=m*c ^ f:=CJ _ hm;omega
     have hf5:=WZ hc hk;have e3:a*(33+qF f+33)<=a*qF (f+1):=EY _ (by grind[qF]);rw[Ro,Ro] at e3;have e2:a*c ^ f<=a*33:=EY _ hk;omega
def Tr:Ty->Bool
 | .mk k _ _ _=>!(k==3||k==4||k==6)
def nF (t:Ty):Nat:=bif Tr t then 1 else 33*lv t+500
def ex9:List Nat->List Nat->Nat
 | [b,c],[_,f]=>1+c+f*b
 | _,_=>0
mutual
def nb:Ty->Nat
 | .mk k _ _ ts=>bif k==6 then ex9 (nbl ts) (ts.map nF) else bif k==3||k==4 then(nbl ts).sum else 0
def nbl:List Ty->List Nat
 | []=>[]
 | t::l=>nb t::nbl l
end
theorem QJ:∀l:List Ty,nbl l=l.map nb
 | []=>rfl
 | t::l=>by rw[nbl,QJ l]; rfl
theorem Wc {ex:List Ty->FV} {v a c n:Nat} {B0:List Ty} (hx:ExC v a c B0 ex) (hc:2<=c):∀(l out B:List Ty),(∀t∈l,pat t=true/\BH (·==(v:Int)) t<=n)->B0<+:B->out.length<=32 ->
  (∀r,(CX (Ac 32) (Bl (Ac 32) ex v) l out B).1=some r->(CX (Ac 32) (Bl (Ac 32) ex v) l out B).2.length+a*out.length<=B.length+a*r.length/\r.length<=32) /\
  ((CX (Ac 32) (Bl (Ac 32) ex v) l out B).1=none->(CX (Ac 32) (Bl (Ac 32) ex v) l out B).2.length+a*out.length<=B.length+a*(n+461))
 | [],out,B,_,_,ho=>by grind[CX]
 | t::l,out,B,hl,hB,ho=>by
  obtain⟨t1,t2⟩:=hl t (by simp);have hp:=Ka (Au:=Ac 32) hx.pre v t B;have h33:a*out.length<=a*32:=EY _ ho
  have key:(∀r,(Bl (Ac 32) ex v t B).1=some r->r.length<=33/\(Bl (Ac 32) ex v t B).2.length<=B.length+a*r.length)/\((Bl (Ac 32) ex v t B).1=none->(Bl (Ac 32) ex v t B).2.length<=B.length+a*(n+396)):=by
   rw[Bl];cases hoc:Cz v true t with
   | true=>
    simp
   | false=>
    simp only[AE];obtain⟨f1,f2⟩:=Wa hx hc _ t B rfl hoc t1 hB;refine⟨λr h=>?_,λh=>?_⟩
    .grind
    .have:=f2 h
     have e:a*qF (BH (·==(v:Int)) t)<=a*(n+396):=EY _ (by grind[qF]);omega
  rw[Ro] at key ⊢;rw[CX];rcases hr:Bl (Ac 32) ex v t B with ⟨_|r,B1⟩
  .grind
  .rw[hr] at key hp
   obtain⟨k1,k2⟩:=key.1 r rfl;simp only at k2 hp ⊢;have h34:a*r.length<=a*33:=EY _ k1;cases hb:Ac 32 (out++r).length with
   | true=>
    grind
   | false=>
    simp only[AE];obtain⟨i1,i2⟩:=Wc hx hc l (out++r) B1 (λy hy=>hl y (by grind)) (hB.trans hp) (by grind);rw[B7,Ro] at i1 i2
    grind
theorem cO {ex:List Ty->FV} {v a n:Nat} (ha:∀B,(ex B).2.length<=B.length+a) (hc:∀B r,(ex B).1=some r->r.length<=1):∀(l out B:List Ty),(∀t∈l,BH (·==(v:Int)) t<=n) ->
  (CX (Ac 32) (Bl (Ac 32) ex v) l out B).2.length<=B.length+a*n*l.length
 | [],out,B,_=>by grind[CX]
 | t::l,out,B,hl=>by
  have ht:=hl t (by simp)
  have key:(Bl (Ac 32) ex v t B).2.length<=B.length+a*n:=by
   rw[Bl];cases Cz v true t with
   | true=>simp
   | false=>
    have:=cN (Au:=Ac 32) (v:=v) ha hc (BH (·==(v:Int)) t) t B;have e:a*BH (·==(v:Int)) t<=a*n:=EY _ ht
    grind
  rw[CX,CI,Rm];rcases hr:Bl (Ac 32) ex v t B with ⟨_|r,B1⟩
  .grind
  .rw[hr] at key
   simp only at key ⊢;cases Ac 32 (out++r).length with
   | true=>grind
   | false=>
    have:=cO ha hc l (out++r) B1 (λy hy=>hl y (by grind))
    grind
theorem ve {ex:List Ty->FV} {v a:Nat} (ha:∀B,(ex B).2.length<=B.length+a) {l:List Ty} (hl:l.length<=1) (hc:∀t∈l,BH (·==(v:Int)) t<=1) (B:List Ty):(CX (Ac 32) (Bl (Ac 32) ex v) l [] B).2.length<=B.length+a:=by
 rcases l with _|⟨t,_|⟨u,l⟩⟩
 .grind[CX]
 .have ht:=hc t (by simp)
  have key:(Bl (Ac 32) ex v t B).2.length<=B.length+a:=by
   rw[Bl];cases Cz v true t with
   | true=>simp
   | false=>simp[*,vZ]
  grind[CX]
 grind
theorem oq {b:Ty} {f:Nat} (hv:valid b=true) (hc:BW 0 b=true) (hs:Cc (bw b)):(∀B,(Ao (Ac 32) f b B).1=none)\/∃c,∀B r,(Ao (Ac 32) f b B).1=some r->r.length=c:=by
 have h:=gJ (Au:=Ac 32) rfl rfl f b [] hv hc GY hs
 have h2:∀B,Lf (λB' b p=>∃φ,Rl false 0 B' B.length B'.length [] b p φ) B (HQ (Ac 32) f b) (Ao (Ac 32) f b B):=by
  intro B;have:=h B (λx hx=>by grind)
  grind[DT]
 cases hb:HQ (Ac 32) f b with
 | none=>
  left
  intro B;have:=h2 B;rw[hb] at this;rcases he:Ao (Ac 32) f b B with ⟨_|r,B1⟩
  .rfl
  .rw[he] at this
   exact this.elim
 | some l=>
  right
  refine⟨l.length,λB r hr=>?_⟩;have:=h2 B;rw[hb] at this;rcases he:Ao (Ac 32) f b B with ⟨_|r',B1⟩
  .grind
  .rw[he] at hr this
   cases hr;exact this.2.length.symm
theorem Yw {ex:Ty->List Ty->FV} {n:Ty->Nat} {lo:Nat}:∀(l out:List Ty) (ok:Bool) (B:List Ty),(∀t∈l,∀B',lo<=B'.length->B'.length<=(ex t B').2.length/\(ex t B').2.length<=B'.length+n t)->lo<=B.length->(G3 ex l out ok B).2.length<=B.length+(l.map n).sum
 | [],_,_,B,_,_=>MW _ _
 | t::l,out,ok,B,h,hl=>by
  obtain⟨h0,h1⟩:=h t (by simp) B hl;rw[G3,Bz,Ma];rcases hr:ex t B with ⟨_|r,B1⟩
  .rw[hr] at h1 h0
   simp only at h1 h0 ⊢;have:=Yw l out false B1 (λa ha=>h a (by grind)) (by omega);omega
  .rw[hr] at h1 h0
   simp only at h1 h0 ⊢;have:=Yw l (out++r) ok B1 (λa ha=>h a (by grind)) (by omega);omega
theorem lK {ex:Ty->List Ty->FV} {n:Ty->Nat} {lo:Nat}:∀(l:List Ty) (out:List (List Ty)) (B:List Ty),(∀t∈l,∀B',lo<=B'.length->B'.length<=(ex t B').2.length/\(ex t B').2.length<=B'.length+n t)->lo<=B.length->(EI ex l out B).2.length<=B.length+(l.map n).sum
 | [],_,B,_,_=>MW _ _
 | t::l,out,B,h,hl=>by
  obtain⟨h0,h1⟩:=h t (by simp) B hl;rw[EI,Bz,Ma];rcases hr:ex t B with ⟨_|r,B1⟩
  .grind
  .rw[hr] at h1 h0
   simp only at h1 h0 ⊢;have:=lK l (out++[r]) B1 (λa ha=>h a (by grind)) (by omega);omega
theorem DJ {a b:Nat} (h:Cc b) (hl:a<=b):Cc a:=by grind[Cc]
theorem ACS (σ:List Nat) (t:Ty) (u:Nat) (hv:valid t=true):nF (inst σ u t)=nF t:=by
 have h:=R8 σ t u hv
 have:Tr (inst σ u t)=Tr t:=by
  obtain⟨k,n,i,ts⟩:=t;rcases Dk σ u hv with ⟨rfl,rfl,rfl,h0,h1,⟨v,h2,h3⟩|h3⟩|⟨b5,h3⟩ <;> rw[h3] <;> rfl
 grind[nF]
mutual
theorem Yx (σ:List Nat):∀(t:Ty) (u:Nat),valid t=true->nb (inst σ u t)=nb t
 | .mk k n i ts,u,hv=>by
  rcases Dk σ u hv with ⟨rfl,rfl,rfl,h0,h1,⟨v,h2,h3⟩|h3⟩|⟨b5,h3⟩
  .rw[h3]
   rfl
  .rw[h3]
  .simp only[valid,AD] at hv
   obtain⟨e1,e2⟩:=cP σ ts u k 0 hv.2
   grind[nb]
theorem cP (σ:List Nat):∀(l:List Ty) (u:Nat) (k:Int) (j:Nat),Ar l=true->nbl (C9 σ u k j l)=nbl l/\(C9 σ u k j l).map nF=l.map nF
 | [],_,_,_,_=>⟨rfl,rfl⟩
 | t::l,u,k,j,hv=>by
  simp only[Ar,AD] at hv;obtain⟨e1,e2⟩:=cP σ l u k (j+1) hv.2;rw[C9,nbl,nbl,Yx σ t _ hv.1,e1,Bz,Bz,ACS σ t _ hv.1,e2];simp
end
theorem ACT {f:Nat} {b:Ty} {v:Nat} {B0:List Ty} (hv:valid b=true) (hc:BW 0 b=true) (hs:Cc (bw b)) (hvB:v<B0.length) (ha:∀B,(Ao (Ac 32) f b B).2.length<=B.length+nb b) {l:List Ty} (hl:l.length<=32) {n:Nat} (hn:∀t∈l,pat t=true/\BH (·==(v:Int)) t<=n) {B:List Ty} (hB:B0<+:B) :
  (CX (Ac 32) (Bl (Ac 32) (Ao (Ac 32) f b) v) l [] B).2.length<=B.length+(33*n+500)*nb b:=by
 have few:(∀B r,(Ao (Ac 32) f b B).1=some r->r.length<=1)->(CX (Ac 32) (Bl (Ac 32) (Ao (Ac 32) f b) v) l [] B).2.length<=B.length+(33*n+500)*nb b:=by
  intro h;have h1:=cO (v:=v) (n:=n) ha h l [] B (λt ht=>(hn t ht).2);have h2:nb b*n*l.length<=nb b*n*32:=EY _ hl
  grind
 rcases oq (f:=f) hv hc hs with h|⟨c,h⟩
 .grind
 .rcases FK c 2 with h1|h1
  .grind
  .have hx:ExC v (nb b) c B0 (Ao (Ac 32) f b):=by
    refine⟨λB=>Fk f b B,ha,λB r hB hr=>⟨h B r hr,λx hx=>?_⟩⟩;obtain⟨_,h2⟩:=(vY (Aj:=32) (M:=(Ao (Ac 32) f b B).2.length) (f:=f) hv hc hvB).res B r hB hr (AN _)
    grind
   obtain⟨i1,i2⟩:=Wc hx h1 (n:=n) l [] B hn hB (by simp);simp only[Ce,Nat.mul_zero,GQ] at i1 i2;rw[Nat.mul_comm (33*n+500)];cases ho:(CX (Ac 32) (Bl (Ac 32) (Ao (Ac 32) f b) v) l [] B).1 with
   | none=>
    grind
   | some r=>
    obtain⟨j1,j2⟩:=i1 r ho
    grind[Nat.mul_le_mul_left,Nat.le_trans]
theorem ACU:∀(f:Nat) (t:Ty) (σ:List Nat) (B:List Ty),valid t=true->BW σ.length t=true->Cc (bw t)->(∀x∈σ,x<B.length)->(Ao (Ac 32) f (inst σ 0 t) B).2.length<=B.length+nb t:=by
 intro f
 induction f with
 | zero=>
  grind[Ao]
 | succ f ih=>
  intro t σ B hv hc hs hσ;obtain⟨k,n,i,ts⟩:=t;have hf:=λt B=>JR (Au:=Ac 32) f t B
  have Lj:=hv;simp only[valid,AD] at hv
  have part:∀(hk:k≠6) (ZX:k≠5),(∀t∈ts,Cc (bw t))->∀t∈ts.map (inst σ 0),∀B':List Ty,B.length<=B'.length->B'.length<=(Ao (Ac 32) f t B').2.length/\(Ao (Ac 32) f t B').2.length<=B'.length+nb t:=by
   intro hk ZX oU t ht B' hl;obtain⟨t0,Uk,rfl⟩:=Cp.1 ht;rw[Yx σ t0 0 (Bs hv.2 Uk)];exact⟨hf _ B',ih t0 σ B' (Bs hv.2 Uk) (FF hk (DI hc ZX) Uk) (oU t0 Uk) (λx hx=>Fu (hσ x hx) hl)⟩
  have emap:(ts.map (inst σ 0)).map nb=ts.map nb:=by grind[List.map_congr_left,Yx,Bs]
  rcases Dk σ 0 Lj with ⟨rfl,rfl,rfl,_,_,⟨x,h2,h3⟩|h3⟩|⟨b5,h3⟩
  .grind[Ao]
  .grind[Ao]
  .rw[h3,Ao]
   cases h0:k==0||k==2||k==7 with
   | true=>simp
   | false=>
    simp only[AE];cases h4:k==4 with
    | true=>
     have hk:k=4:=by grind
     subst hk;have oU:∀t∈ts,Cc (bw t):=λt ht=>DJ hs (by simp[*,bw,Gg,Eb,Fx])
     have:=Yw (ex:=Ao (Ac 32) f) (n:=nb) (lo:=B.length) (ts.map (inst σ 0)) [] true B (part (by decide) (by decide) oU) (AN _)
     grind[Ei,nb,QJ]
    | false=>
     simp only[AE];cases Ml:k==3 with
     | true=>
      have hk:k=3:=by grind
      subst hk;have oU:∀t∈ts,Cc (bw t):=λt ht=>DJ hs (by simp[*,bw,Gg,Eb,Fx])
      have:=lK (ex:=Ao (Ac 32) f) (n:=nb) (lo:=B.length) (ts.map (inst σ 0)) [] B (part (by decide) (by decide) oU) (AN _);rw[emap] at this;rw[Ei (k:=3) (by decide),nb,QJ];simp only[AH];generalize EI (Ao (Ac 32) f) (ts.map (inst σ 0)) [] B=o at this ⊢;rcases o with ⟨_|ls,B1⟩
      .grind
      .simp only
       cases ls.any List.isEmpty with
       | true=>grind
       | false=>
        grind
     | false=>
      simp only[AE];cases YN:k==6 with
      | false=>simp
      | true=>
       have:k=6:=by grind
       subst this;rcases Jr hv.1 with h' | h' | h' | h' | h' | h' | ⟨_,rfl,rfl,b,body,rfl,hcb⟩
       iterate 6 exact absurd h' (by simp)
       simp only[Ar,AD] at hv;obtain⟨_,J9,Lp,_⟩:=hv;have eb:inst σ (0+EW 6 0) b=b:=HF σ b 0 J9 hcb
       have hcy:BW (1+σ.length) body=true:=by
        have:=DI hc (by decide);simp only[C7,AD] at this;have h2:=this.2.1;rw[Kv];exact h2
       have O4:sub B.length 0 (inst σ 1 body)=inst (B.length::σ) 0 body:=H9 B.length σ body 0 Lp (by omega);have e1:inst σ (0+EW 6 (0+1)) body=inst σ 1 body:=rfl;simp only[AH,C9,eb,eE];rw[e1,O4];have hbw:bw (.mk 6 [] 0 [b,body])=bw body+1+(cv body+1)*bw b:=rfl;have hsb:Cc (bw b):=DJ hs (by grind);have hsy:Cc (bw body):=DJ hs (by omega)
       have hab:∀B',(Ao (Ac 32) f b B').2.length<=B'.length+nb b:=λB'=>by
        have:=ih b [] B' J9 hcb hsb (λx hx=>by grind)
        grind[DT]
       have hσ':∀x∈B.length::σ,x<(B++[b]).length:=λx hx=>by grind
       have AO2:BW (B.length::σ).length body=true:=by grind
       have hay:=ih body (B.length::σ) (B++[b]) Lp AO2 hsy hσ';rw[B7,CI,Ce] at hay;have enb:nb (.mk 6 [] 0 [b,body])=1+nb body+nF body*nb b:=rfl;rw[enb];have hpy:=Fk (Au:=Ac 32) f (inst (B.length::σ) 0 body) (B++[b]);have hcn:=λM l=>cM (Au:=Ac 32) f body (B.length::σ) (B++[b]) M B.length l Lp AO2 (by simp) hσ'
       have hpt:=λl=>Oz (Au:=Ac 32) f (inst (B.length::σ) 0 body) (B++[b]) l (F8 (B.length::σ) body 0 Lp).2.2.2
       have hbg:=λl=>Kb (Au:=Ac 32) (by rfl) f (inst (B.length::σ) 0 body) (B++[b]) l
       have hlf:Tr body=true->∀l,(Ao (Ac 32) f (inst (B.length::σ) 0 body) (B++[b])).1=some l->l.length<=1/\lv body<=1:=by
        intro hl l hr;obtain⟨k',n',i',ts'⟩:=body;simp only[Tr,Kq,G7] at hl;obtain⟨⟨l3,l4⟩,l6⟩:=hl;refine⟨?_,?_⟩
        .cases f with
         | zero=>cases hr
         | succ f=>
          obtain⟨k2,n2,i2,O5,e2,m3,m4,m6⟩:∃k2 n2 i2 O5,inst (B.length::σ) 0 (.mk k' n' i' ts')=.mk k2 n2 i2 O5/\(k2==3)=false/\(k2==4)=false/\(k2==6)=false:=by
           rcases Dk (B.length::σ) 0 Lp with ⟨rfl,rfl,rfl,_,_,⟨x,_,h3⟩|h3⟩|⟨_,h3⟩
           all_goals grind
          rw[e2,Ao,m3,m4,m6] at hr;simp only[AE] at hr;cases hq:k2==0||k2==2||k2==7 with
          | true=>
           grind
          | false=>
           grind
        grind[lv]
       generalize Ao (Ac 32) f (inst (B.length::σ) 0 body) (B++[b])=o at hay hpy hcn hpt hbg hlf ⊢;rcases o with ⟨_|l,B1⟩
       .grind
       .simp only at hay hpy hcn hpt hbg hlf ⊢
        have AVS:l.length<=32:=by grind
        have oC:(CX (Ac 32) (Bl (Ac 32) (Ao (Ac 32) f b) B.length) l [] B1).2.length<=B1.length+nF body*nb b:=by
         cases hlb:Tr body with
         | true=>
          obtain⟨q1,q2⟩:=hlf hlb l rfl;rw[nF,hlb];have:=ve (v:=B.length) hab q1 (λt ht=>A6 (hcn B1.length l rfl (AN _) t ht) q2) B1
          grind
         | false=>
          rw[nF,hlb];exact ACT J9 hcb hsb (B0:=B++[b]) (by simp) hab AVS (λt ht=>⟨hpt l rfl t ht,hcn B1.length l rfl (AN _) t ht⟩) hpy
        generalize CX (Ac 32) (Bl (Ac 32) (Ao (Ac 32) f b) B.length) l [] B1=o2 at oC ⊢;rcases o2 with ⟨_|out,B2⟩
        all_goals grind
theorem Gx:∀{l:List Ty} {a:Ty},a∈l->depth a<=CE l
 | b::l,a,h=>by
  simp only[CE];rcases Az.1 h with rfl|h
  .omega
  .have:=Gx h
   omega
theorem ACV {Aj f:Nat} {C0:Ty} (hv:valid C0=true) {σ:List Nat} (hc:BW (1+σ.length) C0=true) (b:Ty) (B:List Ty):(Ao (Ac Aj) f (inst (B.length::σ) 0 C0) (B++[b])).2.length<=(VD Aj (Ao (Ac Aj) f) b (inst σ 1 C0) B).2.length:=by
 have O4:sub B.length 0 (inst σ 1 C0)=inst (B.length::σ) 0 C0:=H9 B.length σ C0 0 hv (by omega);rw[VD,O4];rcases Ao (Ac Aj) f (inst (B.length::σ) 0 C0) (B++[b]) with ⟨_|l,B1⟩
 .exact AN _
 .have:=(ID (Au:=Ac Aj) (g:=Bl (Ac Aj) (Ao (Ac Aj) f b) B.length) (λc B=>Ka (λB=>Fk f b B) _ c B) l [] B1).length_le
  simp only;rcases hk:CX (Ac Aj) (Bl (Ac Aj) (Ao (Ac Aj) f b) B.length) l [] B1 with ⟨_|o,B2⟩
  .grind
  .grind
section
variable {R:RT}
theorem vg {e Aj M f:Nat} (Hg:Aj<2 ^ 20) {n:List UInt8} {i:Int} {ts:List Ty} (hl:ts.length<2 ^ 36) {B:List Ty}
  (ih:∀t∈ts,∀B',B<+:B'->(Ao (Ac Aj) f t B').2.length<=M->∀x,BM (ren t) x->∀s,Bj s->Ui R e Aj 44 [x] (Ao (Ac Aj) f t B') B' s)
  (hM:(Lo Aj (Ao (Ac Aj) f) ts B).2.length<=M) {x:AV} (hx:BM (ren (.mk 3 n i ts)) x) {s:AM} (hs:Bj s):Ui R e Aj 44 [x] ((match (Lo Aj (Ao (Ac Aj) f) ts B).1 with
   | none=>none
   | some l=>bif Ac Aj l.length then none else some l),(Lo Aj (Ao (Ac Aj) f) ts B).2) B s:=by
 intro L d hro GZ hE hd;have le:=(BL.1 hE).1;have same:s.bs.set e [d,AA Aj]=s.bs:=by grind[List.set_getElem_self]
 have hxc:=hx;rw[Ga _ _ _ _ (by decide)] at hx;obtain⟨a,rfl,ha⟩:=hx;obtain⟨_,_,hxi⟩:=hxc.cells;refine m44 (by rfl) ?_;rw[hro,GZ];have g0:=Am s.bs [AA 3,SS n,AA i,a];have gE:=Ah hE [AA 3,SS n,AA i,a];have hT:(s.bs++[[AA 3,SS n,AA i,a]]).take s.bs.length=s.bs.set e [d,AA Aj]:=by grind
 have hok:Bj ⟨s.bs++[[AA 3,SS n,AA i,a]],s.ts⟩:=Bj.app (s:=s) hs (hxi _);refine ML ha false rfl (cJ (BE (Bd (BE (Bd (BP ?_))))));generalize s.bs++[[AA 3,SS n,AA i,a]]=bs at g0 gE hT hok;obtain⟨w,s',⟨d3,Q6,q1,q2,q3,rfl⟩,q4⟩:=ACL (R:=R) (e:=e) Hg (λt B=>Fk f t B) (λt _ B r h=>by grind[Kb]) ha hl ih (Cw B) hM hok (Cu (env R) 44 0 0 0) d rfl rfl gE hd;have hT3:(bs.set e [d3,AA Aj]).take s.bs.length=s.bs.set e [d3,AA Aj]:=by grind[Gk]
 have gE3:(bs.set e [d3,AA Aj])[e]?=some [d3,AA Aj]:=Be gE;refine AW (Ak g0) (Ag (off:=3) g0 rfl ⟨_,_,q4,?_⟩);generalize Lo Aj (Ao (Ac Aj) f) ts B=o at q1 q2;obtain⟨r,B2⟩:=o;cases r with
 | none=>
  cases q1;exact CC rfl (CC rfl (R7 (Ek hs hT3 (q2.A9.Ai _) (r:=none) rfl λw hw=>⟨d3,Q6,hw,q2,q3,rfl⟩)))
 | some out=>
  obtain⟨a5,rfl,ha5⟩:=q1;exact CC rfl (CC rfl (cH ha5 gE3 λw hw=>Ek hs hT3 (q2.A9.Ai _) hw λw hw=>⟨d3,Q6,hw,q2,q3,rfl⟩))
theorem vh {e Aj M f:Nat} {n:List UInt8} {i:Int} {ts:List Ty} (hl:ts.length*Aj<2 ^ 38) (Rq:ts.length<2 ^ 38) {B:List Ty}
  (ih:∀t∈ts,∀B',B<+:B'->(Ao (Ac Aj) f t B').2.length<=M->∀x,BM (ren t) x->∀s,Bj s->Ui R e Aj 44 [x] (Ao (Ac Aj) f t B') B' s)
  {out:List Ty} {ok:Bool} {B1:List Ty} (ho:G3 (Ao (Ac Aj) f) ts [] true B=((out,ok),B1)) (hM:B1.length<=M) {x:AV} (hx:BM (ren (.mk 4 n i ts)) x) {s:AM} (hs:Bj s):Ui R e Aj 44 [x] ((bif ok&&!Ac Aj out.length then some out else none),B1) B s:=by
 intro L d hro GZ hE hd;have le:=(BL.1 hE).1;have same:s.bs.set e [d,AA Aj]=s.bs:=by grind[List.set_getElem_self]
 have hxc:=hx;rw[Ga _ _ _ _ (by decide)] at hx;obtain⟨a,rfl,ha⟩:=hx;obtain⟨_,_,hxi⟩:=hxc.cells;refine m44 (by rfl) ?_;rw[hro,GZ];have g0:=Am s.bs [AA 4,SS n,AA i,a];have gE:=Ah hE [AA 4,SS n,AA i,a];have hT:(s.bs++[[AA 4,SS n,AA i,a]]).take s.bs.length=s.bs.set e [d,AA Aj]:=by grind
 have hok:Bj ⟨s.bs++[[AA 4,SS n,AA i,a]],s.ts⟩:=Bj.app (s:=s) hs (hxi _);refine ML ha false rfl (cJ (BE (Bd (BP ?_))));have N4:s.bs.length<=(s.bs++[[AA 4,SS n,AA i,a]]).length:=by simp
 generalize s.bs++[[AA 4,SS n,AA i,a]]=bs at g0 gE hT hok N4;refine AW (Ak g0) (Ag (off:=3) g0 rfl (BI (n:=ts.length) (by rw[ha.BN,AR,Bf,Bn]) ?_));refine ACN (R:=R) (M:=M) (λt B=>Fk f t B) (λt _ B r h=>by grind[Kb]) ha hl Rq ih le (o:=((out,ok),B1)) hM ?_ ts.length 0 [] true B bs s.ts d (.AB []) (by omega) (by grind) (Cw B) (by simp) hok hT N4 hd (.inl rfl) (ES.refl _ _) (D2.AB _ _) (RU.AB _ _);intro b2 tk d2 acc hs2 R6 Sg hch hacc;have gE2:b2[e]?=some [d2,AA Aj]:=D7 R6 (by rw[Fy le]);cases ok with
 | false=>exact R7 (Ek hs R6 (Sg.A9.Ai _) (r:=none) rfl λw hw=>⟨d2,tk,hw,Sg,hch,rfl⟩)
 | true=>
  refine cH hacc gE2 λw hw=>Ek hs R6 (Sg.A9.Ai _) hw λw hw=>⟨d2,tk,?_,Sg,hch,rfl⟩
  grind
theorem MM (hn:NN R) {e Aj M:Nat} (Ug:1<=Aj) (Hg:Aj<2 ^ 20) (hM:M<2 ^ 37):∀(f:Nat) (t:Ty) (σ:List Nat),depth t<=f->valid t=true->BW σ.length t=true->wt t<2 ^ 37->size t<2 ^ 18->∀(B:List Ty),(∀x∈σ,x<B.length) ->
  (Ao (Ac Aj) f (inst σ 0 t) B).2.length<=M->∀x,BM (ren (inst σ 0 t)) x->∀s,Bj s->Ui R e Aj 44 [x] (Ao (Ac Aj) f (inst σ 0 t) B) B s:=by
 intro f
 induction f with
 | zero=>
  intro t σ hd;obtain⟨k,n,i,ts⟩:=t
  grind[depth]
 | succ f ih=>
  intro t σ hdp hv hc hw hsz B hσ od x hx s hs;obtain⟨k,n,i,ts⟩:=t;have Lj:=hv;simp only[valid,AD] at hv;have hb0:Ac Aj 0=false:=by rfl
  have N3:Ac Aj 1=false:=by grind
  have hinv:=Dk σ 0 Lj;simp only[depth] at hdp;simp only[size] at hsz
  have leaf:∀(T:Ty) (k' i':Int) (n':List UInt8) (ts':List Ty),ren T=.mk k' n' i' ts'->(k'==0||k'==2)=true->∀x,BM (ren T) x->Ui R e Aj 44 [x] (some [T],B) B s:=by
   intro T k' i' n' ts' hT hk x hx L d hro GZ hE hd;have same:s.bs.set e [d,AA Aj]=s.bs:=by grind[List.set_getElem_self]
   rw[hT] at hx;obtain⟨a,rfl,ha⟩:=hx;refine m44 (by rfl) ?_;rw[hro,GZ];refine ACO hT hk ha hE λw hw=>?_
   rw[N3] at hw;exact Ek hs (by grind) (hd.A9.Ai _) hw λw hw=>⟨d,s.ts,hw,hd,ES.refl _ _,rfl⟩
  have rest:∀(k' i':Int) (n':List UInt8) (ts':List Ty),k'≠0->k'≠2->k'≠3->k'≠4->k'≠6->∀x,BM (.mk k' n' i' ts') x->Ui R e Aj 44 [x] (some [],B) B s:=by
   intro k' i' n' ts' h0 h2 h3 h4 h6 x hx L d hro GZ hE hd;have same:s.bs.set e [d,AA Aj]=s.bs:=by grind[List.set_getElem_self]
   obtain⟨a,rfl,ha⟩:=hx;refine m44 (by rfl) ?_;rw[hro,GZ];refine ACP ha h0 h2 h3 h4 h6 hE λw hw=>?_
   exact Ek hs (by grind) (hd.A9.Ai _) hw λw hw=>⟨d,s.ts,hw,hd,ES.refl _ _,rfl⟩
  have mem:∀(hk:k≠6) (ZX:k≠5),(∀t∈ts,wt t<2 ^ 37)->∀t∈ts.map (inst σ 0),∀B',B<+:B'->(Ao (Ac Aj) f t B').2.length<=M->∀x,BM (ren t) x->∀s,Bj s->Ui R e Aj 44 [x] (Ao (Ac Aj) f t B') B' s:=by
   intro hk ZX hwt t ht B' hB' eF x hx s hs;obtain⟨t0,Uk,rfl⟩:=Cp.1 ht;have:=Gx Uk;have:=GM Uk;exact ih t0 σ (by omega) (Bs hv.2 Uk) (FF hk (DI hc ZX) Uk) (hwt t0 Uk) (by omega) B' (λy hy=>Fu (hσ y hy) hB'.length_le) eF x hx s hs
  have hts:=Bk ts;have ot:∀{l:List Nat} {a:Nat},a∈l->a<=l.sum:=λh=>Eb h
  rcases Jr hv.1 with ⟨rfl,rfl,rfl,rfl⟩|⟨rfl,rfl,rfl,rfl⟩|rfl|⟨rfl,rfl,rfl⟩|⟨rfl,rfl,rfl,hne⟩|⟨rfl,rfl,rfl,h0⟩|⟨rfl,rfl,rfl,b,body,rfl,hcb⟩
  .have eo:Ao (Ac Aj) (f+1) (inst σ 0 (.mk 0 [] 0 [])) B=(some [inst σ 0 (.mk 0 [] 0 [])],B):=by grind[Ao]
   rw[eo];exact leaf _ 0 0 [] [] rfl rfl x hx
  .have eo:Ao (Ac Aj) (f+1) (inst σ 0 (.mk 1 [] 0 [])) B=(some [],B):=by rfl
   rw[eo];exact rest 1 0 [] [] (by decide) (by decide) (by decide) (by decide) (by decide) x hx
  .grind[Ao,Ga]
  .have e1:inst σ 0 (.mk 3 [] 0 ts)=.mk 3 [] 0 (ts.map (inst σ 0)):=by grind[Ei]
   rw[e1] at hx od ⊢
   have et:Ao (Ac Aj) (f+1) (.mk 3 [] 0 (ts.map (inst σ 0))) B=((match (Lo Aj (Ao (Ac Aj) f) (ts.map (inst σ 0)) B).1 with
     | none=>none
     | some l=>bif Ac Aj l.length then none else some l),(Lo Aj (Ao (Ac Aj) f) (ts.map (inst σ 0)) B).2):=by
    rw[Ao,Lo];simp only[show((3:Int)==0)=false from rfl,show((3:Int)==2)=false from rfl,show((3:Int)==7)=false from rfl,show((3:Int)==4)=false from rfl,Ks,AE,CN,AH];rcases EI (Ao (Ac Aj) f) (ts.map (inst σ 0)) [] B with ⟨_|ls,B1⟩
    all_goals grind
   grind[vg,wt,LJ,List.mem_map_of_mem]
  .have e1:inst σ 0 (.mk 4 [] 0 ts)=.mk 4 [] 0 (ts.map (inst σ 0)):=by grind[Ei]
   rw[e1] at hx od ⊢;rcases hu:G3 (Ao (Ac Aj) f) (ts.map (inst σ 0)) [] true B with ⟨⟨out,ok⟩,B1⟩
   have et:Ao (Ac Aj) (f+1) (.mk 4 [] 0 (ts.map (inst σ 0))) B=((bif ok&&!Ac Aj out.length then some out else none),B1):=by grind[Ao]
   rw[et] at od ⊢;have hmul:ts.length*Aj<=ts.length*2 ^ 20:=EY _ (by omega);refine vh (by grind) (by grind) (mem (by decide) (by decide) λt ht=>?_) hu od hx hs
   grind[wt,LJ,List.mem_map_of_mem]
  .grind[Ao,ren]
  .simp only[Ar,AD] at hv
   obtain⟨_,J9,Lp,_⟩:=hv;have e1:inst σ 0 (.mk 6 [] 0 [b,body])=.mk 6 [] 0 [b,inst σ 1 body]:=by grind[C9,EW,HF]
   have hcy:BW (1+σ.length) body=true:=by
    have:=DI hc (by decide);simp only[C7,AD] at this;have h2:=this.2.1;rw[Kv];exact h2
   rw[e1] at hx od ⊢;have et:Ao (Ac Aj) (f+1) (.mk 6 [] 0 [b,inst σ 1 body]) B=VD Aj (Ao (Ac Aj) f) b (inst σ 1 body) B:=by rfl
   rw[et] at od ⊢;simp only[CE] at hdp;simp only[AQ] at hsz;rw[wt] at hw;simp only[CN,AH,gL,Lg,wx] at hw
   have qX:wt b<2 ^ 37/\wt body<2 ^ 37:=by
    have p3:1*wt b<=max 1 (cv body)*wt b:=CJ _ (by omega);omega
   refine WV hn Hg hM J9 hcb Lp hcy (by omega) hw ?_ hσ ?_ ?_ od hx hs
   .intro l hl t ht
    have hpy:=Fk (Au:=Ac Aj) f (inst (B.length::σ) 0 body) (B++[b])
    have hB1:(Ao (Ac Aj) f (inst (B.length::σ) 0 body) (B++[b])).2.length<=M:=by
     have:=ACV (Aj:=Aj) (f:=f) Lp hcy b B;omega
    have hBl:=hpy.length_le;simp only[B7,CI,Ce] at hBl;obtain⟨z1,z2,z3,z4⟩:=F8 (B.length::σ) body 0 Lp
    obtain⟨_,y2⟩:=IC (Au:=Ac Aj) f (inst (B.length::σ) 0 body) (B++[b]) M (qM M) l (λi h1 h2=>by grind) (II (λx hx=>by
     simp only[AD,CZ,B7,CI,Ce]
     grind) body 0 Lp) hl hB1 t ht
    have h1:=YV (Au:=Ac Aj) f (inst (B.length::σ) 0 body) (B++[b]) l hl t ht;rw[kR _ _ _ Lp] at h1;have y3:BH (·==(B.length:Int)) t<=cv body:=A6 (R2 (λ_ _=>rfl) t) h1;have y4:BH (·==(B.length:Int)) t*wt b<=max 1 (cv body)*wt b:=CJ _ (by omega);omega
   .intro B' eF x hx s hs
    have:=ih b [] (by omega) J9 hcb qX.1 (by omega) B' (λy hy=>by grind)
    grind[DT]
   grind
end
theorem cQ:∀(n:Nat) (l:List Int),l.Nodup->(∀i∈l,0<=i/\i<(n:Int))->l.length<=n:=by
 intro n
 induction n with
 | zero=>
  intro l _ h;cases l with
  | nil=>simp
  | cons a l=>
   have:=h a (by simp);omega
 | succ n ih=>
  intro l hn h
  by_cases hm:(n:Int)∈l
  .have h1:=ih (l.erase (n:Int)) (hn.erase _) (λi hi=>by grind)
   grind
  grind
theorem Rl.lM {B:List Ty} {lo hi:Nat} {b:Br} {p:Ty} {φ:List Nat} (H:Rl false 0 B lo hi [] b p φ):(occs b.body []).length<=φ.length:=by
 refine cQ _ _ (HZ b.body [] GY) λi hi=>?_
 rcases KY b.body [] i hi with h|h
 .cases h
 .rcases H.vis i h with h|h|h
  all_goals grind
structure VE (t b:Ty):Prop where
 val:valid b=true
 cl:BW 0 b=true
 dep:depth b<depth t
 NR:size b<size t
 wts:wt b<=wt t
 bws:bw b<=bw t
 nbs:nb b<=nb t
theorem AJy (t:Ty):1<=nF t:=by grind[nF]
theorem Ts {P:Ty->Prop}:∀{l:List Ty},(∀t∈l,EE P t)->MJ P l
 | [],_=>trivial
 | t::l,h=>by
  rw[MJ];exact⟨h t (by simp),Ts λa ha=>h a (by grind)⟩
theorem vk:∀(m:Nat) (t:Ty),depth t<=m->valid t=true->EE (VE t) t:=by
 intro m
 induction m with
 | zero=>
  intro t hd;obtain⟨k,n,i,ts⟩:=t
  grind[depth]
 | succ m ih=>
  intro t hd hv;obtain⟨k,n,i,ts⟩:=t;have Lj:=hv;simp only[valid,AD] at hv;simp only[depth] at hd
  have up:∀t0∈ts,(wt t0<=wt (.mk k n i ts)/\bw t0<=bw (.mk k n i ts)/\nb t0<=nb (.mk k n i ts))->EE (VE (.mk k n i ts)) t0:=by
   intro t0 h0 h1;have ou:=Gx h0;have hs0:=GM h0;refine WO (λb hb=>?_) t0 (ih t0 (by omega) (Bs hv.2 h0));exact⟨hb.val,hb.cl,by have:=hb.dep; grind[depth],by have:=hb.NR; grind[size],A6 hb.wts h1.1,A6 hb.bws h1.2.1,A6 hb.nbs h1.2.2⟩
  have mem3:∀(hk:(k==6)=false) (hk2:(k==3||k==4)=true),∀t0∈ts,wt t0<=wt (.mk k n i ts)/\bw t0<=bw (.mk k n i ts)/\nb t0<=nb (.mk k n i ts):=by
   intro hk hk2 t0 h0;rw[wt,bw,nb,hk,hk2];simp only[AE,AH,LJ,Gg,QJ];have h1:=Eb (Fx (f:=wt) h0);have h2:=Eb (Fx (f:=bw) h0);have h3:=Eb (Fx (f:=nb) h0);omega
  have hty:∀l:List Ty,(∀t∈l,t∈ts)->True:=λ_ _=>trivial
  rw[EE]
  by_cases h6:k=6
  .subst h6
   rcases Jr hv.1 with h' | h' | h' | h' | h' | h' | ⟨_,rfl,rfl,b,body,rfl,hcb⟩
   iterate 6 exact absurd h' (by simp)
   simp only[Ar,AD] at hv;have e1:wt (.mk 6 [] 0 [b,body])=wt body+max 1 (cv body)*wt b:=rfl;have e2:bw (.mk 6 [] 0 [b,body])=bw body+1+(cv body+1)*bw b:=rfl;have e3:nb (.mk 6 [] 0 [b,body])=1+nb body+nF body*nb b:=rfl;have w1:1*wt b<=max 1 (cv body)*wt b:=CJ _ (by omega);have w3:1*bw b<=(cv body+1)*bw b:=CJ _ (by omega);have w4:1*nb b<=nF body*nb b:=CJ _ (AJy body);refine⟨λ_ b' body' he=>?_,λ_=>Ts λt0 h0=>up t0 h0 ?_⟩
   .cases he
    exact⟨hv.2.1,hcb,by grind[depth,CE],by grind[size,AQ],by omega,by omega,by omega⟩
   grind
  grind[Ts]
theorem vn {α β:Type} (p:α->Bool) (g:α->List β) (q:β->Bool):∀l:List α,(l.all p&&(l.flatMap g).all q)=l.all λb=>p b&&(g b).all q
 | []=>rfl
 | a::l=>by grind
theorem all_congr {α:Type} {p q:α->Bool}:∀{l:List α},(∀a∈l,p a=q a)->l.all p=l.all q
 | [],_=>rfl
 | a::l,h=>by
  rw[Ho,Ho,h a (by simp),all_congr λb hb=>h b (by grind)]
theorem CG.map_eq {α β γ:Type} {R:α->β->Prop} {f:α->γ} {g:β->γ} (h:∀a b,R a b->f a=g b):∀{l:List α} {m:List β},CG R l m->l.map f=m.map g
 | [],[],_=>rfl
 | a::l,b::m,⟨h1,h2⟩=>by rw[Bz,Bz,h a b h1,h2.map_eq h]
 | [],_::_,h=>h.elim
 | _::_,[],h=>h.elim
theorem Nt {t:Ty} {f:Nat} (hv:valid t=true) (hc:BW 0 t=true):∀b∈(Ao (Ac 32) f t []).2,VE t b:=by
 have:=WR (Au:=Ac 32) (P:=VE t) f t [] hv hc (vk _ t (AN _) hv) [] (λb hb=>by grind)
 grind[DT]
theorem AO3:∀(f:Nat) (t:Ty),(verdict t=0->Cc (bw t))->xP f t=xR f t:=by
 intro f
 induction f with
 | zero=>intro t _; rfl
 | succ f ih=>
  intro t hs;rw[xP,xR];cases hg:!(verdict t==0)||!(BW 0 t) with
  | true=>rfl
  | false=>
   simp only[G7,Bool.not_eq_false',GX] at hg;obtain⟨hv,hc⟩:=hg;have hs:=hs hv;obtain⟨hv,_,_⟩:=ET hv;simp only[AE];have h:=gJ (Au:=Ac 32) rfl rfl (depth t) t [] hv hc GY hs [] (λx hx=>by grind);rw[DT hv hc] at h;have hb:=Nt (f:=depth t) hv hc;have hsz:=DS (Au:=Ac 32) (depth t) t;generalize HQ (Ac 32) (depth t) t=o at h hsz;generalize Ao (Ac 32) (depth t) t []=o2 at h hb;rcases o with _|l <;> rcases o2 with ⟨_|ps,B⟩
   .rfl
   .exact h.elim
   .exact h.elim
   .obtain⟨_,h2⟩:=h
    simp only at hb ⊢
    have e:l.map IA=ps.map (IY B):=by
     have h3:CG (λb p=>b∈l/\∃φ,Rl false 0 B ([]:List Ty).length B.length [] b p φ) l ps:=by
      have gen:∀(l':List Br) (ps':List Ty),(∀b∈l',b∈l)->CG (λb p=>∃φ,Rl false 0 B ([]:List Ty).length B.length [] b p φ) l' ps'->CG (λb p=>b∈l/\∃φ,Rl false 0 B ([]:List Ty).length B.length [] b p φ) l' ps':=by
       intro l'
       induction l' with
       | nil=>intro ps' _ h; cases ps' with
        | nil=>trivial
        | cons _ _=>exact h.elim
       | cons a l' ihl=>
        intro ps' hm h;cases ps' with
        | nil=>exact h.elim
        | cons p ps'=>exact⟨⟨hm a (by simp),h.1⟩,ihl ps' (λb hb=>hm b (by grind)) h.2⟩
      grind
     refine h3.map_eq λb p ⟨Oa,φ,H⟩=>(ua H (AN _) (DJ hs ?_)).symm
     have:=H.lM;have:=H.len
     grind
    rw[e,vn]
    have hall:(ps.map (IY B)).all (λb=>Uj b&&b.bounds.all λb=>FD (xP f b))=(ps.map (IY B)).all (λb=>Uj b&&b.bounds.all λb=>FD (xR f b)):=by
     refine all_congr λb hbm=>?_
     obtain⟨p,_,rfl⟩:=Cp.1 hbm;congr 1;refine all_congr λc KD=>?_
     rw[ih c];intro hvc;have KD:c∈(KE B.length p []).2.map λx=>B.getD x oV:=KD
     obtain⟨x,_,rfl⟩:=Cp.1 KD;rw[Rk];cases hx:B[x]? with
     | none=>exact DJ hs (AK _)
     | some c=>exact DJ hs (hb c (BA hx)).bws
    rw[hall]
mutual
def vP (p:Int->Bool):Ty->Bool
 | .mk k n i ts=>bif k==5 then n==[]&&(ts.isEmpty&&p i) else bif k==2||k==3 then Q7 p ts else true
def Q7 (p:Int->Bool):List Ty->Bool
 | []=>true
 | t::l=>vP p t&&Q7 p l
end
mutual
theorem R9 {p q:Int->Bool} (h:∀i,p i=true->q i=true):∀t:Ty,vP p t=true->vP q t=true
 | .mk k n i ts,ht=>by
  rw[vP] at ht ⊢;cases h5:k==5 with
  | true=>
   grind
  | false=>
   rw[h5] at ht;cases h2:k==2||k==3 with
   | true=>
    rw[h2] at ht;exact Tt h ts ht
   | false=>rfl
theorem Tt {p q:Int->Bool} (h:∀i,p i=true->q i=true):∀l:List Ty,Q7 p l=true->Q7 q l=true
 | [],_=>rfl
 | t::l,hl=>by
  simp only[Q7,AD] at hl ⊢;exact⟨R9 h t hl.1,Tt h l hl.2⟩
end
theorem Tu (p:Int->Bool):∀(l m:List Ty),Q7 p (l++m)=(Q7 p l&&Q7 p m)
 | [],m=>by rfl
 | t::l,m=>by simp[Q7,Tu p l m,Mb]
theorem O8:∀(l m:List Ty),AQ (l++m)=AQ l+AQ m
 | [],m=>by simp[AQ]
 | t::l,m=>by simp only[Eu,AQ,O8 l m]; omega
mutual
theorem Nu {p q:Int->Bool} {g:Int->Int} (h:∀i,p i=true->q (g i)=true):∀t:Ty,vP p t=true->vP q (BR (λi=>var (g i)) t)=true/\size (BR (λi=>var (g i)) t)=size t
 | .mk k n i ts,ht=>by
  rw[vP] at ht;rw[BR];cases h5:k==5 with
  | true=>
   grind[size,vP]
  | false=>
   rw[h5] at ht;simp only[AE] at ht ⊢;cases h2:k==2||k==3 with
   | true=>
    rw[h2] at ht;obtain⟨i1,i2⟩:=lN h ts ht
    grind[size,vP]
   | false=>
    grind[vP]
theorem lN {p q:Int->Bool} {g:Int->Int} (h:∀i,p i=true->q (g i)=true):∀l:List Ty,Q7 p l=true->Q7 q (BU (λi=>var (g i)) l)=true/\AQ (BU (λi=>var (g i)) l)=AQ l
 | [],_=>⟨rfl,rfl⟩
 | t::l,hl=>by
  simp only[Q7,AD] at hl;obtain⟨i1,i2⟩:=Nu h t hl.1;obtain⟨j1,j2⟩:=lN h l hl.2
  grind[BU,Q7,AQ]
end
mutual
theorem AET {p:Int->Bool} {c:Ty} (hc:vP p c=true):∀(b:Ty) (k:Nat),vP p b=true->vP p (M1 c b k)=true/\size (M1 c b k)<=size b+size c
 | .mk d n i ts,k,hb=>by
  have hb':=hb;rw[vP] at hb;rw[M1];cases h5:d==5 with
  | true=>
   grind
  | false=>
   rw[h5] at hb;simp only[AE] at hb ⊢;cases h3:d==3 with
   | true=>
    have h23:(d==2||d==3)=true:=by grind
    rw[h23] at hb;obtain⟨i1,i2⟩:=vo hc ts k hb
    grind[size,vP]
   | false=>grind
theorem vo {p:Int->Bool} {c:Ty} (hc:vP p c=true):∀(l:List Ty) (k:Nat),Q7 p l=true->Q7 p (HN c l k)=true/\AQ (HN c l k)<=AQ l+size c
 | [],_,_=>⟨rfl,AK _⟩
 | t::l,k,hl=>by
  simp only[Q7,AD] at hl;rw[HN];cases decide (k<(Al t).length) with
  | true=>
   obtain⟨i1,i2⟩:=AET hc t k hl.1
   grind[Q7,AQ]
  | false=>
   obtain⟨i1,i2⟩:=vo hc l (k-(Al t).length) hl.2
   grind[Q7,AQ]
end
mutual
theorem SA {p:Int->Bool}:∀t:Ty,vP p t=true->∀i∈Al t,p i=true
 | .mk k n i ts,ht,j,hj=>by
  rw[vP] at ht;rw[Al] at hj;cases h5:k==5 with
  | true=>
   grind
  | false=>
   rw[h5] at ht hj;cases h3:k==3 with
   | true=>
    have h23:(k==2||k==3)=true:=by grind
    rw[h3] at hj;rw[h23] at ht;exact cR ts ht j hj
   | false=>grind
theorem cR {p:Int->Bool}:∀l:List Ty,Q7 p l=true->∀i∈CL l,p i=true
 | [],_,_,hj=>by cases hj
 | t::l,hl,j,hj=>by
  simp only[Q7,AD] at hl;rw[CL] at hj;rcases CM.1 hj with hj|hj
  .exact SA t hl.1 j hj
  .exact cR l hl.2 j hj
end
mutual
theorem O9:∀t:Ty,valid t=true->vP (λi=>decide (0<=i)&&decide (i<=200)) t=true
 | .mk k n i ts,h=>by
  have h':=h;simp only[valid,AD] at h;rw[vP];cases h5:k==5 with
  | true=>
   grind[EA,Kf]
  | false=>
   simp only[AE];rw[Wd ts h.2];simp
theorem Wd:∀l:List Ty,Ar l=true->Q7 (λi=>decide (0<=i)&&decide (i<=200)) l=true
 | [],_=>rfl
 | t::l,h=>by
  simp only[Ar,AD] at h;rw[Q7,O9 t h.1,Wd l h.2];rfl
end
abbrev VF (N:Nat):Int->Bool:=λi=>decide (-201<=i)&&(decide (i<N)||i==hole)
theorem lO {N:Nat} {i:Int}:VF N i=true<->-201<=i/\(i<N\/i=hole):=by simp
theorem AJz {N M:Nat} (h:N<=M) (i:Int) (hi:VF N i=true):VF M i=true:=by grind
theorem count_map {l:List Int} {g:Int->Int} (h:∀i∈l,g i=hole->i=hole) (h0:l.count hole=0):(l.map g).count hole=0:=by grind[List.count_eq_zero]
theorem Nv (n:Nat):Je n=BR λi=>var (bif decide (0<=i)&&!(i==hole) then i+n else i):=by grind[Je]
theorem AO4 {N n:Nat} {i:Int} (hi:VF N i=true):VF (n+N) (bif decide (0<=i)&&!(i==hole) then i+n else i)=true:=by grind[decide]
theorem ACX {N n:Nat} (h:((n+N:Nat):Int)<hole) {i:Int} (hi:VF N i=true) (he:(bif decide (0<=i)&&!(i==hole) then i+n else i)=hole):i=hole:=by grind
structure Q9 (W:Nat) (b:Br):Prop where
 ok:vP (VF b.bounds.length) b.body=true
 NR:size b.body<=W
 nh:(Al b.body).count hole=0
theorem Q9.le {W V:Nat} {b:Br} (h:Q9 W b) (hl:W<=V):Q9 V b:=⟨h.ok,A6 h.NR hl,h.nh⟩
theorem Q9.shift {W:Nat} {c:Br} (h:Q9 W c) {n:Nat} (hs:((n+c.bounds.length:Nat):Int)<hole):vP (VF (n+c.bounds.length)) (Je n c.body)=true/\size (Je n c.body)<=W/\(Al (Je n c.body)).count hole=0:=by
 rw[Nv];obtain⟨i1,i2⟩:=Nu (q:=VF (n+c.bounds.length)) (g:=λi=>bif decide (0<=i)&&!(i==hole) then i+n else i) (λi hi=>AO4 hi) c.body h.ok;refine⟨i1,by rw[i2]; exact h.NR,?_⟩;rw[EJ];exact count_map (λi hi he=>ACX hs (SA _ h.ok i hi) he) h.nh
section
variable {Au:Nat->Bool}
theorem lQ {W:Nat} {b c:Br} {k:Nat} (hb:vP (VF b.bounds.length) b.body=true) (hk:H8 b.body=some k) (hc:Q9 W c) (hs:((b.bounds.length+c.bounds.length:Nat):Int)<hole) :
  vP (VF (Eh b k c).bounds.length) (Eh b k c).body=true/\size (Eh b k c).body<=size b.body+W/\(Al (Eh b k c).body).count hole+1=(Al b.body).count hole/\k<(Al b.body).length:=by
 obtain⟨s1,s2,s3⟩:=hc.shift hs;have el:(Eh b k c).bounds.length=b.bounds.length+c.bounds.length:=by simp[Eh]
 obtain⟨f1,f2⟩:=E7 hk;have hkl:k<(Al b.body).length:=(BL.1 f1).1;obtain⟨t1,t2⟩:=TG f1 f2;have e:(Eh b k c).body=M1 (Je b.bounds.length c.body) b.body k:=rfl;obtain⟨r1,r2⟩:=AET s1 b.body k (R9 (λi hi=>AJz (MW _ _) i hi) _ hb)
 grind[Ol]
theorem lR {l:List Br} {W w S T:Nat} (hl:∀c∈l,Q9 W c/\c.bounds.length<=w) (hT:(T:Int)<hole):∀(f:Nat) (b:Br) (r:List Br),vP (VF b.bounds.length) b.body=true->(Al b.body).count hole<=f->size b.body+(Al b.body).count hole*W<=S->b.bounds.length+(Al b.body).count hole*w<=T ->
  HE Au l f b=some r->∀d∈r,Q9 S d
 | 0,b,r,hb,hf,hS,_,h,d,hd=>by
  rw[HE] at h;cases h;rw[DF.1 hd];exact⟨hb,by omega,by omega⟩
 | f+1,b,r,hb,hf,hS,hTb,h,d,hd=>by
  rw[HE] at h;cases hk:H8 b.body with
  | none=>
   rw[hk] at h;cases h;rw[DF.1 hd];refine⟨hb,by omega,?_⟩;rw[MZ];intro hm;have h2:(Al b.body).findIdx? (·==hole)=none:=hk
   grind
  | some k=>
   rw[hk] at h;rcases JN h d hd with h' | ⟨c,h1,s,h2,h3⟩
   .grind
   .obtain⟨hc,hcw⟩:=hl c h1
    have hpos:0<(Al b.body).count hole:=by
     have hfs:=E7 hk
     grind
    have m0:1*w<=(Al b.body).count hole*w:=CJ _ hpos;obtain⟨g1,g2,g3,_⟩:=lQ hb hk hc (by omega);have el:(Eh b k c).bounds.length=b.bounds.length+c.bounds.length:=by simp[Eh]
    have m1:(Al b.body).count hole*W=(Al (Eh b k c).body).count hole*W+W:=by rw[<-g3,Md]
    have m2:(Al b.body).count hole*w=(Al (Eh b k c).body).count hole*w+w:=by rw[<-g3,Md]
    exact lR hl hT f _ s g1 (by omega) (by omega) (by omega) h2 d h3
theorem ACY (n:Nat) (t:Ty):Mm n t=BR (λi=>var (bif i==-1 then(n:Int) else bif decide (i<0) then i+1 else i)) t:=by rw[LF]
theorem AO5 {W:Nat} {b:Br} (h:Q9 W b) (hs:((b.bounds.length:Nat):Int)<hole):vP (VF (b.bounds.length+1)) (Mm b.bounds.length b.body)=true/\size (Mm b.bounds.length b.body)=size b.body/\(Al (Mm b.bounds.length b.body)).count hole=0:=by
 rw[ACY];obtain⟨i1,i2⟩:=Nu (q:=VF (b.bounds.length+1)) (g:=λi=>bif i==-1 then(b.bounds.length:Int) else bif decide (i<0) then i+1 else i) (λi hi=>by grind) b.body h.ok;refine⟨i1,i2,?_⟩;rw[EJ];refine count_map (λi hi he=>?_) h.nh
 grind
theorem AO6 {N:Nat} {t:Ty} (h:vP (VF (N+1)) t=true) (hs:(N:Int)<hole):vP (VF N) (LC N hole t)=true/\size (LC N hole t)=size t:=by
 rw[J6];refine Nu (q:=VF N) (g:=λi=>bif i==(N:Int) then hole else i) (λi hi=>?_) t h
 grind
theorem vp {W Wb w C:Nat} {YM:Option (List Br)} {bound:Ty} {b:Br} (hb:Q9 W b) (hC:(Al b.body).length<=C) (hl:∀l,YM=some l->∀c∈l,Q9 Wb c/\c.bounds.length<=w) {T:Nat} (hT:(T:Int)<hole) (hbT:b.bounds.length+(Al b.body).length*w<=T) {r:List Br} (h:JM Au YM bound b=some r):∀d∈r,Q9 (W+C*Wb) d:=by
 have hs:((b.bounds.length:Nat):Int)<hole:=by omega
 obtain⟨b1,b2,b3⟩:=AO5 hb hs;obtain⟨r1,r2⟩:=AO6 b1 hs;have Vg:=hb.NR;intro d hd;unfold JM at h;cases ho:oI (·==(b.bounds.length:Int)) (Mm b.bounds.length b.body) with
 | true=>
  rw[ho] at h;cases h;rw[DF.1 hd];exact⟨by grind,by grind,b3⟩
 | false=>
  rw[ho] at h;simp only[AE] at h;cases hk:H8 (LC b.bounds.length hole (Mm b.bounds.length b.body)) with
  | none=>
   rw[hk] at h;cases h;rw[DF.1 hd];refine⟨r1,by grind,?_⟩;rw[MZ];intro hm;have h2:(Al (LC b.bounds.length hole (Mm b.bounds.length b.body))).findIdx? (·==hole)=none:=hk
   grind
  | some k=>
   rw[hk] at h;cases hb':YM with
   | none=>grind
   | some l=>
    rw[hb'] at h;simp only at h;have Ba:(Al (LC b.bounds.length hole (Mm b.bounds.length b.body))).length=(Al b.body).length:=by simp[*,J6,EJ,LF]
    have U7:(Al (LC b.bounds.length hole (Mm b.bounds.length b.body))).count hole<=(Al b.body).length:=by grind
    have hcs:=Mu b.body;refine lR (S:=W+C*Wb) (T:=T) (λc hc=>hl l hb' c hc) hT _ ⟨b.bounds,LC b.bounds.length hole (Mm b.bounds.length b.body)⟩ r r1 U7 ?_ ?_ h d hd
    .have m1:(Al (LC b.bounds.length hole (Mm b.bounds.length b.body))).count hole*Wb<=C*Wb:=CJ _ (by omega)
     grind
    .have m1:(Al (LC b.bounds.length hole (Mm b.bounds.length b.body))).count hole*w<=(Al b.body).length*w:=CJ _ U7
     grind
end
section
variable {Au:Nat->Bool}
theorem AJ0 {W S:Nat} {b c:Br} {args:List Ty} (hb:Q9 S b) (he:b.body=.mk 3 [] 0 args) (hc:Q9 W c) (hs:((b.bounds.length+c.bounds.length:Nat):Int)<hole):Q9 (S+W) ⟨b.bounds++c.bounds,.mk 3 [] 0 (args++[Je b.bounds.length c.body])⟩:=by
 obtain⟨s1,s2,s3⟩:=hc.shift hs;have hok:=hb.ok;have hsz:=hb.NR;have hnh:=hb.nh;rw[he] at hok hsz hnh;have hok:Q7 (VF b.bounds.length) args=true:=by assumption
 have hsz:AQ args+1<=S:=by assumption
 have hnh:(CL args).count hole=0:=by assumption
 refine⟨?_,?_,?_⟩
 all_goals grind[vP,Q7,Tu,Tt,size,O8,AQ,Al,Vt]
theorem vq {T:Nat} (hT:(T:Int)<hole):∀{ls:List (List Br)} {ws vs:List Nat} {out r:List Br} {N S:Nat},(CG (λl w=>∀c∈l,Q9 w c) ls ws)->(CG (λl w=>∀c∈l,c.bounds.length<=w) ls vs) ->
  (∀b∈out,Q9 S b/\b.bounds.length<=N/\∃args,b.body=.mk 3 [] 0 args)->N+vs.sum<=T->Ln Au ls out=some r->∀d∈r,Q9 (S+ws.sum) d
 | [],[],[],out,r,N,S,_,_,ho,_,h,d,hd=>by grind[Ln]
 | [],_::_,_,_,_,_,_,h,_,_,_,_,_,_=>h.elim
 | [],[],_::_,_,_,_,_,_,h,_,_,_,_,_=>h.elim
 | _::_,[],_,_,_,_,_,h,_,_,_,_,_,_=>h.elim
 | _::_,_::_,[],_,_,_,_,_,h,_,_,_,_,_=>h.elim
 | l::ls,w::ws,v::vs,out,r,N,S,⟨hw,hws⟩,⟨hv,hvs⟩,ho,hN,h,d,hd=>by
  rw[Ln] at h;rw[Ma] at hN;cases hb:Au (NJ out l).length with
  | true=>grind
  | false=>
   rw[hb] at h;have:=vq hT (N:=N+v) (S:=S+w) hws hvs ?_ (by omega) h d hd
   all_goals grind[NJ,AJ0]
theorem lS:∀(f:Nat) (t:Ty) (l:List Br),valid t=true->Cc (bw t)->HQ Au f t=some l->∀b∈l,Q9 (wt t) b:=by
 intro f
 induction f with
 | zero=>
  grind[HQ]
 | succ f ih=>
  intro t l hv hs h d hd;obtain⟨k,n,i,ts⟩:=t;have Lj:=hv;simp only[valid,AD] at hv;rw[HQ] at h;have ot:∀(hk:(k==6)=false) (hk2:(k==3||k==4)=true),∀t0∈ts,Cc (bw t0):=by grind[DJ,bw,Gg,Eb]
  rcases Jr hv.1 with ⟨rfl,rfl,rfl,rfl⟩|⟨rfl,rfl,rfl,rfl⟩|rfl|⟨rfl,rfl,rfl⟩|⟨rfl,rfl,rfl,hne⟩|⟨rfl,rfl,rfl,h0⟩|⟨rfl,rfl,rfl,b,body,rfl,hcb⟩
  .cases h
   rw[DF.1 hd];exact⟨rfl,by grind[size,wt],rfl⟩
  .grind
  .have hm:∀i,(decide (0<=i)&&decide (i<=200))=true->VF 0 (-1-i)=true:=λi hi=>by grind
   obtain⟨m1,m2⟩:=Nu hm _ (O9 _ Lj);cases h;rw[DF.1 hd];refine⟨m1,?_,?_⟩
   all_goals simp[*,size,LG,wt,Kv,Al,EJ]
  .simp only[show((3:Int)==0)=false from rfl,show((3:Int)==2||(3:Int)==5)=false from rfl,AE,CN,AH] at h
   cases vr:IU (ts.map (HQ Au f)) with
   | none=>grind
   | some ls=>
    rw[vr] at h;simp only at h;have ha:=JO vr;cases he:ls.any List.isEmpty with
    | true=>grind
    | false=>
     rw[he] at h;have oU:=ot rfl rfl;have q1:CG (λl w=>∀c∈l,Q9 w c) ls (ts.map wt):=ha.JP λt l hm hg c hc=>ih t l (Bs hv.2 hm) (oU t hm) hg c hc
     have q2:CG (λl w=>∀c∈l,c.bounds.length<=w) ls (ts.map bw):=ha.JP λt l _ hg c hc=>(DS f t l hg c hc).1
     have:=vq (T:=bw (.mk 3 [] 0 ts)) hs (N:=0) (S:=1) q1 q2 (λb hb=>by
      rw[DF.1 hb];exact⟨⟨rfl,by simp[size,AQ],rfl⟩,by simp,_,rfl⟩) (by grind[bw,Gg]) h d hd
     grind[wt,LJ]
  .simp only[show((4:Int)==0)=false from rfl,show((4:Int)==2||(4:Int)==5)=false from rfl,show((4:Int)==3)=false from rfl,AE,CN,AH] at h
   cases vr:IU (ts.map (HQ Au f)) with
   | none=>grind
   | some ls=>
    rw[vr] at h;simp only at h;have ha:=JO vr;cases hb:Au ls.flatten.length with
    | true=>grind
    | false=>
     rw[hb] at h;cases h;obtain⟨l',h1,h2⟩:=XS.1 hd;obtain⟨t,h3,h4⟩:=ha.Mp l' h1;refine(ih t l' (Bs hv.2 h3) (ot rfl rfl t h3) h4 d h2).le ?_;have e:wt (.mk 4 [] 0 ts)=1+(ts.map wt).sum:=by grind[wt,LJ]
     have:=Eb (Fx (f:=wt) h3);omega
  .have hm:∀i,(decide (0<=i)&&decide (i<=200))=true->VF 0 (-1-i)=true:=λi hi=>by grind
   obtain⟨m1,m2⟩:=Nu hm _ (O9 _ Lj);cases h;rw[DF.1 hd];refine⟨m1,?_,?_⟩
   .simp[*,size,LG,wt,Kv]
   .show(Al (mkV _)).count hole=0
    rw[LG,EJ,Al]
    grind[List.count_eq_zero,hole]
  .simp only[show((6:Int)==0)=false from rfl,show((6:Int)==2||(6:Int)==5)=false from rfl,show((6:Int)==3)=false from rfl,show((6:Int)==4)=false from rfl,AE,CN,AH,eE] at h
   simp only[Ar,AD] at hv;obtain⟨_,J9,Lp,_⟩:=hv;have hbw:bw (.mk 6 [] 0 [b,body])=bw body+1+(cv body+1)*bw b:=rfl;have hsb:Cc (bw b):=DJ hs (by grind);have hsy:Cc (bw body):=DJ hs (by omega);cases hb:HQ Au f body with
   | none=>grind
   | some l0=>
    rw[hb] at h;simp only at h;rcases JN h d hd with h' | ⟨a,h1,s,h2,h3⟩
    .grind
    .obtain⟨z1,z2⟩:=DS f body l0 hb a h1
     have e:wt (.mk 6 [] 0 [b,body])=wt body+max 1 (cv body)*wt b:=rfl;rw[e];refine vp (T:=bw (.mk 6 [] 0 [b,body])) (w:=bw b) (ih body l0 Lp hsy hb a h1) (C:=max 1 (cv body)) (by omega) (λl hl c hc=>⟨ih b l J9 hsb hl c hc,(DS f b l hl c hc).1⟩) hs ?_ h2 d h3;have m1:(Al a.body).length*bw b<=cv body*bw b:=CJ _ z2
     grind
end
theorem A8.lT {E:Env} {L:A3} {f:FuncId} {args:List AV} {s s':AM} {v:AV} {T:A3->List AV->AM->Option (AV×AM)} {fn:Func} (hfn:E.P.funcs[f]?=some fn) (hc:E.clone f=true) (ht:E.told f=some T) (h:T L args s=some (v,s')):A8 E L f args s v s':=by
 refine⟨1,λm hm=>?_⟩;obtain⟨m,rfl⟩:∃m',m=m'+1:=⟨m-1,by omega⟩
 grind[DG,OL]
theorem We {l:List Int} (hs:l.Pairwise (·<·)) {h:Nat} {u:Int} (hu:l[h]?=some u):(∀x∈l.take (h+1),x<=u)/\(∀x∈l.drop h,u<=x)/\(∀x∈l.drop (h+1),u<x):=by
 have e:l=l.take h++u::l.drop (h+1):=by grind[drop_cons,List.take_append_drop]
 have hp:=hs;rw[e,List.pairwise_append] at hp;obtain⟨h1,h2,h3⟩:=hp;have h4:=(List.pairwise_cons.1 h2).1;refine⟨λx hx=>?_,λx hx=>?_,h4⟩
 all_goals grind
section
variable {R:RT}
theorem QK (w:Int):AL (env R) 152 [AA w] λr=>r=BB false:=
 AVT (u0:=AA w) (by simp) (AJ1 (Fl ⟨_,Gu,by simp⟩))
theorem ow (w:Int):AL (env R) 163 [AA w] λr=>r=BB false:=
 AVU (u0:=AA w) (by simp) (AJ2 (Fl ⟨_,Gu,by simp⟩))
theorem oy (a b:Int):AL (env R) 162 [AA a,AA b] λr=>r=BB (decide (a<b)):=by
 refine AVV (u0:=AA a) (u1:=AA b) (by simp) (AJ3 ?_);refine AG (QK a) ?_;rintro v rfl;exact Bx (Bx (Bx (pk (Ax (Ax (Ax (A2 (pk ⟨_,Gu,rfl⟩))))))))
def vt (bs:List (List AV)) (l:List Int) (x:AV):Prop:=(x=.AB []/\l=[])\/∃id,x=.ref id 0 l.length 1/\bs[id]?=some (l.map λn=>AA n)/\l≠[]
theorem LO {s:AM} {id:Nat} {l:List Int} (hid:s.bs[id]?=some (l.map λn=>AA n)) (hne:l≠[]):alive s id=true:=by
 obtain⟨c,r,hc⟩:∃c r,l=c::r:=by
  cases l with
  | nil=>grind
  | cons c r=>simp
 simp[*]
theorem IK {want:Bool} {s:AM} {W:(AV->AM->Prop)->Prop} {K:AV->AM->Prop} (h:K (.tuple []) s):Hs (.tuple []) want s W K:=h
theorem ACZ {s:AM} {id i:Nat} {l:List Int} {w:Int} (hid:s.bs[id]?=some (l.map λn=>AA n)) (hne:l≠[]) (hw:l[i]?=some w) {K:AV->Prop} (h:K (AA w)):Cl s 1 (.ref id 0 l.length 1) (AA i) λa=>EG (env R) s none a K:=by
 have hi:i<l.length:=(BL.1 hw).1;refine⟨⟨by omega,by omega,rfl,LO hid hne⟩,?_⟩
 simp_all
def Found (l:List Int) (w:Int) (i:Nat) (b:Bool):Prop:=i<=l.length/\(b=true->l[i]?=some w)/\(b=false->(∀u∈l.take i,u<w)/\∀u∈l.drop i,w<u)
theorem Yy {w:Int} {l:List Int} (hs:l.Pairwise (·<·)) {id:Nat} {s:AM} (hid:s.bs[id]?=some (l.map λn=>AA n)) (hne:l≠[]) (hl:l.length<2 ^ 40) {Post:AV->Prop} (hP:∀(i:Nat) b,Found l w i b->Post (.tuple [AA i,BB b])) {n0 ro rt n m:Nat} :
  ∀(d i j:Nat),j-i<=d->i<=j->j<=l.length->(∀u∈l.take i,u<w)->(∀u∈l.drop j,w<=u)->Tv R n0 ro rt (.ref id 0 l.length 1) (AA w) (AA l.length) (AA i) (AA j) s (QI n m Post):=by
 have fin:∀(i:Nat) b,Found l w i b->QI n m Post (.tuple [AA i,BB b]) s:=λi b h=>⟨_,by simp,hP i b h⟩
 intro d
 induction d with
 | zero=>
  intro i j h1 h2 h3 h4 h5;have e:i=j:=by omega
  subst e;refine hY (A2 ?_);simp only[Int.lt_irrefl,XV];refine BE (vu (A2 ?_))
  by_cases hi:i<l.length
  .obtain⟨u,hu⟩:∃u,l[i]?=some u:=⟨_,Ap hi⟩
   have b1:decide ((i:Int)<(l.length:Int))=true:=by grind
   rw[b1];refine Ax (Ax ?_);refine Ax ?_;have hi':i<l.length:=hi;refine⟨⟨by omega,by omega,rfl,LO hid hne⟩,?_⟩;have e:0+((i:Int).toNat)*1=i:=by omega
   rw[e];refine Ax ?_;simp only[EG,hid,wO,DQ,FJ,hu,MY,xL,xM,xF,xG];refine Ax (Ax (Bd ?_));cases hb:(u==w) with
   | true=>
    have huw:u=w:=by grind
    subst huw;refine Ax ?_;refine J7 (by simp) (J7 (by simp) (J7 (by simp) (J7 (by simp) (J7 (by simp) (J7 (by simp) (IK (IK (J7 (by simp) ?_))))))));exact Ax (pk (pk (fin i true ⟨h3,λ_=>hu,by simp⟩)))
   | false=>
    have huw:u≠w:=by grind
    have hf:Found l w i false:=⟨h3,by simp,λ_=>⟨h4,λx hx=>by
     have h6:=(We hs hu).2.1 x hx;have h7:=h5 u (by rw[drop_cons hu]; simp);omega⟩⟩
    refine Ax ?_;refine Ax (Ax (Ax ?_));refine⟨⟨by omega,by omega,rfl,LO hid hne⟩,?_⟩;rw[e];refine Ax ?_;simp only[EG,hid,wO,DQ,FJ,hu,MY,xL,xM,xF,xG];refine Ax ?_;refine AG (ow u) ?_;simp[*]
  .have b1:decide ((i:Int)<(l.length:Int))=false:=by grind
   rw[b1];refine J7 (by simp) (J7 (by simp) (J7 (by simp) (J7 (by simp) (J7 (by simp) (J7 (by simp) (J7 (by simp) ?_))))));refine IK (IK (IK (IK (IK (IK (IK (IK (IK ?_))))))));exact J7 (by simp) (pk (fin i false ⟨h3,by simp,λ_=>⟨h4,λx hx=>by grind⟩⟩))
 | succ d ih=>
  intro i j h1 h2 h3 h4 h5
  by_cases hij:i<j
  .refine hY (A2 ?_)
   have b1:decide ((i:Int)<(j:Int))=true:=by grind
   rw[b1];refine BP (AJ4 (CO (by omega) (by omega) ?_));have hw1:IntKind.u64.wrap ((i:Int)+j)=(i:Int)+j:=by grind[IntKind.wrap,IntKind.bits,IntKind.signed]
   have AO7:∀(K:AV->Prop),K (.pv (.sc (.int .u64 ((i:Int)+j))))->MN .u64 (AA ((i:Int)+j)) K:=by
    intro K h;simp only[MN,hw1];exact h
   refine AO7 _ ?_
   have AVW:∀(K:AV->Prop),K (.pv (.sc (.int .u64 (((i+j) / 2:Nat):Int))))->Cb .u64 .shr (.pv (.sc (.int .u64 ((i:Int)+j)))) (.pv (.sc (.int .u64 1))) K:=by
    intro K h;refine⟨⟨rfl,rfl⟩,by omega,?_⟩
    have e:((i:Int)+j).fdiv (2 ^ (min (1:Int).toNat IntKind.u64.bits))=(((i+j) / 2:Nat):Int):=by
     have:(2:Int) ^ (min (1:Int).toNat IntKind.u64.bits)=2:=by rfl
     grind
    grind
   refine AVW _ ?_
   have hw2:IntKind.i64.wrap ((((i+j) / 2:Nat):Int))=(((i+j) / 2:Nat):Int):=by
    unfold IntKind.wrap;simp[IntKind.bits,IntKind.signed];omega
   have AJ5:∀(K:AV->Prop),K (AA (((i+j) / 2:Nat):Int))->MN .i64 (.pv (.sc (.int .u64 (((i+j) / 2:Nat):Int)))) K:=by
    intro K h;simp only[MN,hw2];exact h
   refine AJ5 _ ?_;generalize hh:(i+j) / 2=h at *;obtain⟨u,hu⟩:∃u,l[h]?=some u:=⟨_,Ap (by omega)⟩;refine ACZ hid hne hu ?_;refine AG (oy u w) ?_;rintro v rfl;have hsa:=We hs hu
   by_cases hlt:u<w
   .rw[Aq hlt]
    refine BP (CO (by omega) (by omega) ?_);have:=ih (h+1) j (by omega) (by omega) h3 (λx hx=>by grind) h5
    grind
   .rw[BF hlt]
    exact BE (ih i h (by omega) (by omega) (by omega) h4 (λx hx=>by grind))
  .exact ih i j (by omega) h2 h3 h4 h5
theorem Yz {w:Int} {l:List Int} (hs:l.Pairwise (·<·)) {x:AV} {s:AM} (hx:vt s.bs l x) (hl:l.length<2 ^ 40) :
  ∃v,(∃(i:Nat) (b:Bool),v=.tuple [AA i,BB b]/\Found l w i b)/\∀L,A8 (env R) L 142 [x,AA w] s v s:=by
 rcases hx with ⟨rfl,rfl⟩|⟨id,rfl,hid,hne⟩
 .have:AL (env R) 142 [.AB [],AA w] λv=>∃(i:Nat) (b:Bool),v=.tuple [AA i,BB b]/\Found [] w i b:=by
   refine AVX (u0:=.AB []) (u1:=AA w) (by simp) (vv ?_);simp;refine hY ?_;simp;refine vu ?_;simp[*,QP,Found]
  obtain⟨v,h1,h2⟩:=this
  grind
 .have Ba:AU [] 0 0 [.ref id 0 l.length 1,AA w]=none:=by rfl
  refine i142 Ba (vv ?_);have hal:=LO hid hne
  have hlen:∀K:AV->Prop,K (AA l.length)->BV s (.ref id 0 l.length 1) K:=by
   intro K h;simp only[BV,BN,hal,AH,wO];exact h
  refine hlen _ ?_;exact Yy hs hid hne hl (λi b h=>⟨i,b,rfl,h⟩) _ 0 l.length (AN _) (by omega) (AN _) (λu hu=>by grind) (λu hu=>by grind)
end
mutual
def PU (u:Nat):Ty->List Int
 | .mk k _ i ts=>(bif k==5&&decide ((u:Int)<=i) then [i-u] else [])++KA u k 0 ts
def KA (u:Nat) (k:Int) (j:Nat):List Ty->List Int
 | []=>[]
 | t::l=>PU (u+EW k j) t++KA u k (j+1) l
end
mutual
theorem PA:∀(t:Ty) (u:Nat),PU u t=[]<->BW u t=true
 | .mk k n i ts,u=>by
  rw[PU,BW];cases k==5&&decide ((u:Int)<=i) with
  | true=>simp
  | false=>simpa using Wf ts u k 0
theorem Wf:∀(l:List Ty) (u:Nat) (k:Int) (j:Nat),KA u k j l=[]<->C7 u k j l=true
 | [],_,_,_=>by simp[KA,C7]
 | t::l,u,k,j=>by
  rw[KA,C7,jQ,PA t,Wf l,AD]
end
mutual
theorem iA:∀(t:Ty) (u:Nat),(PU u t).length<=size t
 | .mk k n i ts,u=>by
  have:=lU ts u k 0
  grind[PU,size]
theorem lU:∀(l:List Ty) (u:Nat) (k:Int) (j:Nat),(KA u k j l).length<=AQ l
 | [],_,_,_=>by simp[KA]
 | t::l,u,k,j=>by
  have:=iA t (u+EW k j);have:=lU l u k (j+1)
  grind[KA,AQ]
end
mutual
def ixs:Ty->Bool
 | .mk k _ i ts=>(!(k==5)||(decide (-(2 ^ 60)<=i)&&decide (i<2 ^ 60)))&&oz ts
def oz:List Ty->Bool
 | []=>true
 | t::l=>ixs t&&oz l
end
theorem iB {l:List Int} {w x:Int} {i:Nat}:x∈l.take i++w::l.drop i<->x∈l\/x=w:=by grind[List.take_append_drop]
theorem iC {l:List Int} {w:Int} {i:Nat} (hi:i<=l.length):(l.take i++w::l.drop i).length=l.length+1:=by grind
theorem insert_sorted {l:List Int} {w:Int} {i:Nat} (hs:l.Pairwise (·<·)) (h1:∀u∈l.take i,u<w) (h2:∀u∈l.drop i,w<u):(l.take i++w::l.drop i).Pairwise (·<·):=by grind[List.pairwise_cons]
def NS (q:Nat) (l:List Int) (bs:List (List AV)):Prop:=∃x,bs[q]?=some [x]/\vt bs l x
structure eH (q:Nat) (l l':List Int) (new:List Int) (s s':AM):Prop where
 ns:NS q l' s'.bs
 srt:l.Pairwise (·<·)->l'.Pairwise (·<·)
 mem:∀x,x∈l'<->x∈l\/x∈new
 len:l'.length<=l.length+new.length
 ts:s'.ts=s.ts
 grow:s.bs.length<=s'.bs.length
 keep:∀(p:Nat) (k n:AV) (r:List AV),(∀i,n≠AA i)->s.bs[p]?=some (k::n::r)->s'.bs[p]?=some (k::n::r)
section
variable {R:RT}
theorem cS {w:Int} {l:List Int} {x:AV} {s:AM} {q i:Nat} (hq:s.bs[q]?=some [x]) (hx:vt s.bs l x) (hl:l.length<2 ^ 20) (hi:i<=l.length) {L:A3} (hro:L.ro=0) :
  ∃id bs',A8 (env R) L 143 [x,AA i,.AB [[.sc (.int .i64 w)]]] s (.ref id 0 (l.length+1) 1) ⟨bs',s.ts⟩/\bs'[id]?=some ((l.take i++w::l.drop i).map λn=>AA n)/\bs'[q]?=some [x]/\q≠id/\s.bs.length<=bs'.length/\q<bs'.length /\
   (∀(p:Nat) (k n:AV) (r:List AV),(∀i,n≠AA i)->s.bs[p]?=some (k::n::r)->bs'[p]?=some (k::n::r)):=by
 have hql:q<s.bs.length:=(BL.1 hq).1;have ei:(AA i)=.pv (.sc (.int .i64 (.ofNat i))):=rfl;rcases hx with ⟨rfl,rfl⟩|⟨id,rfl,hid,hne⟩
 .have hi0:i=0:=by grind
  subst hi0;refine⟨s.bs.length,s.bs++[[AA w]],A8.lT Tryz.func143 (by rfl) (T:=Z0) (by rfl) ?_,?_,?_,by omega,by simp,by grind,?_⟩
  .rfl
  all_goals grind
 .have hil:id<s.bs.length:=(BL.1 hid).1
  have AVY:id≠q:=by
   intro e;subst e
   simp_all
  have h1:1<=l.length:=by grind
  refine⟨s.bs.length,s.bs.set id []++[(l.take i++w::l.drop i).map λn=>AA n],A8.lT Tryz.func143 (by rfl) (T:=Z0) (by rfl) ?_,?_,?_,by omega,by simp,by grind,?_⟩
  .have b1:Nat.beq l.length (l.map λn=>AA n).length=true:=by simp
   have b2:Nat.ble 1 l.length=true:=by simp[*]
   have b3:Nat.ble i l.length=true:=by simp[*]
   have b4:Nat.ble l.length 1000000000=true:=by simp; omega
   grind[Nat.ble,Z0,A1,List.map_take,List.map_drop]
  .simp
  .rw[Cf (by grind),Fv AVY,hq]
  .intro p k n r qW hp
   have Li:p<s.bs.length:=(BL.1 hp).1
   have:id≠p:=by
    intro e;subst e;rw[hp] at hid;rcases l with _|⟨a,_|⟨b,l⟩⟩
    all_goals grind
   rw[Cf (by grind),Fv this,hp]
theorem vw {w:Int} {l:List Int} (hsd:l.Pairwise (·<·)) {s:AM} {q:Nat} (hns:NS q l s.bs) (hl:l.length<2 ^ 20) {L:A3} (hro:L.ro=0) (hn0:L.n0=0) :
  ∃v s',(v=.tuple []/\∃l',eH q l l' [w] s s')/\A8 (env R) L 118 [.ptr q 0,AA w] s v s':=by
 obtain⟨x,hq,hx⟩:=hns;have hql:q<s.bs.length:=(BL.1 hq).1;refine AVa (AJ7 (FG (Ak hq) (AW (Ak hq) (Ag (off:=0) hq rfl ?_))));obtain⟨v,⟨i,b,rfl,hf⟩,hc⟩:=Yz (R:=R) (w:=w) hsd hx (by omega);refine⟨_,_,hc _,CC rfl (CC rfl (nt ?_))⟩;obtain⟨hi,hb,hfb⟩:=hf;cases b with
 | true=>
  refine BE ⟨rfl,l,⟨x,hq,hx⟩,λh=>h,λy=>⟨.inl,?_⟩,by simp,rfl,AN _,λ_ _ _ _ _ h=>h⟩
  grind
 | false=>
  obtain⟨h8,h9⟩:=hfb rfl;obtain⟨id,bs',h1,h2,h3,h4,h5,h6,h7⟩:=cS (R:=R) (w:=w) hq hx hl hi (L:=Cu (env R) 118 L.n0 L.ro L.rt) hro;refine BP (FG (Ak hq) (AW (Ak hq) (Ag (off:=0) hq rfl (Ye ?_))));refine⟨_,_,h1,FG (Ak h3) (AW (Ak h3) (Dr h3 (by simp) rfl (by simp[*]) rfl (.inl (by simp[*])) ?_))⟩;have AI6:∀y,(bs'.set q y)[q]?=some y:=λy=>by grind
  refine⟨rfl,l.take i++w::l.drop i,⟨_,AI6 _,.inr ⟨id,by rw[iC hi],by grind,by simp⟩⟩,λhs=>insert_sorted hs h8 h9,λy=>?_,by grind,rfl,by grind,?_⟩
  all_goals grind[iB]
theorem eH.refl {q:Nat} {l:List Int} {s:AM} (h:NS q l s.bs):eH q l l [] s s:=⟨h,λh=>h,by simp,by simp,rfl,AN _,λ_ _ _ _ _ h=>h⟩
theorem eH.trans {q:Nat} {l l1 l2 n1 n2:List Int} {s s1 s2:AM} (h1:eH q l l1 n1 s s1) (h2:eH q l1 l2 n2 s1 s2):eH q l l2 (n1++n2) s s2:=by
 refine⟨h2.ns,λh=>h2.srt (h1.srt h),λx=>?_,?_,by rw[h2.ts,h1.ts],A6 h1.grow h2.grow,λp k n r hn h=>h2.keep p k n r hn (h1.keep p k n r hn h)⟩
 .rw[h2.mem,h1.mem,CM]
  grind
 .have:=h1.len
  have:=h2.len
  grind
theorem eH.push {q:Nat} {l:List Int} {s:AM} (h:NS q l s.bs) (b:List AV):eH q l l [] s ⟨s.bs++[b],s.ts⟩:=by
 obtain⟨x,hq,hx⟩:=h;have hql:q<s.bs.length:=(BL.1 hq).1;refine⟨⟨x,by rw[Cf hql,hq],?_⟩,λh=>h,by simp,by simp,rfl,by simp,λp k n r _ hp=>?_⟩
 .rcases hx with ⟨h1,h2⟩|⟨id,h1,h2,h3⟩
  .exact .inl ⟨h1,h2⟩
  .exact .inr ⟨id,h1,by rw[Cf (BL.1 h2).1,h2],h3⟩
 grind
def v7 (R:RT) (t:Ty):Prop:=∀(x:AV),A5 t x->∀(u:Nat),u+size t<2 ^ 30->∀(q:Nat) (l:List Int) (s:AM) (L:A3),l.Pairwise (·<·)->NS q l s.bs->l.length+size t<2 ^ 19->L.ro=0->L.n0=0 ->
 ∃v s',(v=.tuple []/\∃l',eH q l l' (PU u t) s s')/\A8 (env R) L 87 [x,AA u,.ptr q 0] s v s'
theorem v8 (n:List UInt8) (i:Int):SS n≠AA i:=by simp
theorem o3 {k0 i0:Int} {n0':List UInt8} {ts:List Ty} {a:AV} (ha:Av a (AP ts)) (hl:AQ ts<2 ^ 30) (ih:∀t∈ts,v7 R t) {u q b0:Nat} (hu:u+AQ ts+1<2 ^ 30) {l0:List Int} (hs0:l0.Pairwise (·<·)) {s0:AM} {L:A3} (hro:L.ro=0) (hn0:L.n0=0) {Post:AV->AM->Prop} {pre:List Int}
  (hP:∀l' s',eH q l0 l' (pre++KA u k0 0 ts) s0 s'->Post (.tuple []) s') (hlen:l0.length+pre.length+AQ ts<2 ^ 19) :
  ∀(j i:Nat) (l:List Int) (s:AM) (don:List Int),i+j=ts.length->s.bs[b0]?=some [AA k0,SS n0',AA i0,a]->eH q l0 l (pre++don) s0 s->don++KA u k0 i (ts.drop i)=KA u k0 0 ts->don.length+AQ (ts.drop i)<=AQ ts->lW R L.n0 L.ro L.rt (AA u) (.ptr q 0) (.ptr b0 0) a (AA ts.length) (AA i) s Post:=by
 have U3:=Bk ts;intro j
 induction j with
 | zero=>
  intro i l s don hi hb hs hd _;refine AEU (A2 ?_);have h1:¬ ((i:Int)<ts.length):=by omega
  rw[BF h1];refine BE ?_;have h2:ts.drop i=[]:=Cj (by omega);rw[h2] at hd;simp only[KA,Hj] at hd;rw[hd] at hs;exact hP l s hs
 | succ j Et=>
  intro i l s don hi hb hs hd hsz;refine AEU (A2 ?_);have h1:((i:Int)<ts.length):=by omega
  rw[Aq h1];refine BP (AO8 ?_);obtain⟨t,ht⟩:∃t,ts[i]?=some t:=⟨_,Ap (by omega)⟩;rw[drop_cons ht] at hd hsz;simp only[KA,AQ] at hd hsz;refine BO ha (row:=Aa t) (by omega) (by grind[BJ]) (Ad t) (by omega) (Di ?_);have Iv:=A5.Bu t;have Oa:=Pv k0 i;have oU:=GM (BA ht);have AO9:=ih t (BA ht) _ Iv (u+EW k0 i) (by omega);have hrl:((Aa t).map AV.pv).length=4:=by grind[Ad]
  have APA:=Ct t;have Ji:=O2 t;have hst:=eH.push hs.ns ((Aa t).map AV.pv);have hlb:=hs.len;simp only[B7] at hlb;have hfl:=iA t (u+EW k0 i);generalize (Aa t).map AV.pv=row at AO9 hrl APA Ji hst;obtain⟨bs,tk⟩:=s;refine Bi (BZ (Am bs Z4) hrl rfl (by decide) (by simp[*]) APA (.inl (by simp[*])) ?_);have e1:(bs++[Z4]).set bs.length row=bs++[row]:=by simp
  simp only at hst hb hs;rw[e1];have gb:=Ah hb row;refine Af (Am bs row) hrl (Af gb rfl ?_);have Vg:AL (env R) 119 [.agg [AA k0,SS n0',AA i0,a],AA i] λr=>r=AA (EW k0 i):=K8 ha i
  refine AG Vg ?_;rintro _ rfl;refine CO (by omega) (by omega) ?_;have e2:((u:Int)+(EW k0 i:Nat))=((u+EW k0 i:Nat):Int):=by omega
  rw[e2];obtain⟨v,s1,⟨rfl,l1,h3⟩,hc⟩:=AO9 q l ⟨bs++[row],tk⟩ (Cu (env R) 87 L.n0 L.ro L.rt) (hs.srt hs0) hst.ns (by omega) hro hn0;refine⟨_,_,hc,Af (Am bs row) hrl Ji,?_⟩;refine APB (CO (by omega) (by omega) ?_);have hall:=(hs.trans hst).trans h3;simp only[Hj,EX] at hall;have:=Et (i+1) l1 s1 (don++PU (u+EW k0 i) t) (by omega) (h3.keep _ _ _ _ (v8 _) gb) hall (by grind) (by grind)
  grind
mutual
theorem Wh:∀(t:Ty),ixs t=true->v7 R t
 | .mk k n i ts,SQ=>by
  intro x hx u hu q l s L hsd hns hl hro hn0;obtain⟨a,rfl,ha⟩:=hx;simp only[size] at hl hu;simp only[ixs,AD] at SQ;have ih:=Tw ts SQ.2
  suffices H:∀Post:AV->AM->Prop,(∀l' s',eH q l l' (PU u (.mk k n i ts)) s s'->Post (.tuple []) s')->wA R L.n0 L.ro L.rt (.agg [AA k,SS n,AA i,a]) (AA u) (.ptr q 0) s Post from
   m87 (H _ λl' s' h=>⟨rfl,l',h⟩)
  intro Post hP;have hst:=eH.push hns [AA k,SS n,AA i,a];have g0:=Am s.bs [AA k,SS n,AA i,a];refine APC (CT (cs:=[AA k,SS n,AA i,a]) rfl (by simp[ha.ok]) (AW (Ak g0) (Ag (off:=0) g0 rfl (Bd ?_))))
  have tail:∀(pre l1:List Int) (s1:AM),eH q l l1 pre s s1->pre++KA u k 0 ts=PU u (.mk k n i ts)->pre.length<=1->s1.bs[s.bs.length]?=some [AA k,SS n,AA i,a]->lX R L.n0 L.ro L.rt (AA u) (.ptr q 0) (.ptr s.bs.length 0) s1 Post:=by
   intro pre l1 s1 h1 h2 h3 h4;refine APD (AW (Ak h4) (Ag (off:=3) h4 rfl (BI (n:=ts.length) (by rw[ha.BN,AR]) ?_)));exact o3 (R:=R) (q:=q) (l0:=l) (s0:=s) (L:=L) (pre:=pre) (Post:=Post) ha (by omega) ih (by omega) hsd hro hn0 (λl' s' h=>hP l' s' (by grind)) (by omega) ts.length 0 l1 s1 [] (by omega) h4 (by grind) (by simp) (by simp)
  cases hk:(k==5) with
  | true=>
   have e2:k=5:=by grind
   subst e2;have AVb:=SQ.1;simp at AVb;refine Ax (AW (Ak g0) (Ax (Ag (off:=2) g0 rfl (Ax (Ax (JT (pk ?_)))))))
   by_cases hui:(u:Int)<=i
   .have:i>=(u:Int):=hui
    rw[Aq this];refine BP (AW (Ak g0) (Ag (off:=2) g0 rfl (Gi (by omega) (by omega) ?_)));refine CY (vw (R:=R) (w:=i-u) (q:=q) (s:=⟨s.bs++[[AA 5,SS n,AA i,a]],s.ts⟩) (l:=l) (L:=Cu (env R) 87 L.n0 L.ro L.rt) hsd hst.ns (by omega) hro hn0) ?_;rintro v s1 ⟨rfl,l1,h1⟩;refine tail [i-u] l1 s1 ?_ ?_ (by simp) (h1.keep _ _ _ _ (v8 _) g0)
    .simpa using hst.trans h1
    grind[PU]
   grind[BE,PU]
  | false=>
   grind[Bx,pk,BE,PU]
theorem Tw:∀(l:List Ty),oz l=true->∀t∈l,v7 R t
 | [],_,_,h=>by cases h
 | e::l,SQ,a,h=>by
  simp only[oz,AD] at SQ;rcases Az.1 h with h' | h'
  .rw[h']
   exact Wh e SQ.1
  .exact Tw l SQ.2 a h'
end
theorem vt.closed {bs:List (List AV)} {l:List Int} {x:AV} (h:vt bs l x):∃x',close bs 0 0 x=some x'/\Av x' (AY l):=by
 rcases h with ⟨rfl,rfl⟩|⟨id,rfl,hid,hne⟩
 .exact⟨.AB [],by rfl,by simp[AY]; exact .AB _⟩
 .have hpv:∀l:List Int,Cm (l.map λn=>AA n)=some (l.map λw=>PV.sc (.int .i64 w)):=by
   intro l
   induction l with
   | nil=>rfl
   | cons w l ih=>simp[*]
  have hrb:∀l:List Int,CD 1 l.length (l.map λw=>PV.sc (.int .i64 w))=AY l:=by
   intro l
   induction l with
   | nil=>rfl
   | cons w l ih=>grind[CD,AY]
  have APE:(l.map λn=>AA n).isEmpty=false:=by simp[*]
  refine⟨.pv (.list (AY l)),?_,.list _⟩
  grind[close,Me]
theorem NT {t:Ty} (h:size t<2 ^ 18) (SQ:ixs t=true) {x:AV} (hx:A5 t x):AL (env R) 43 [x] λr=>∃l:List Int,Av r (AY l)/\l.Pairwise (·<·)/\(∀w,w∈l<->w∈PU 0 t):=by
 have hc:=Wh (R:=R) t SQ x hx 0 (by omega) 1 [];have hle:=iA t 0;generalize hn:PU 0 t=N at *;generalize size t=z at *;obtain⟨k,n,i,ts⟩:=t;obtain⟨a,rfl,ha⟩:=hx;refine e43 (u0:=.agg [AA k,SS n,AA i,a]) (by simp[ha.close]) (APF ?_);refine CT (cs:=[AA k,SS n,AA i,a]) rfl (by simp[ha.ok]) (Bi (Af (cs:=[AA k,SS n,AA i,a]) rfl rfl ?_));refine CY (hc ⟨[[AA k,SS n,AA i,a],[.AB []]],[]⟩ (Cu (env R) 43 0 0 0) List.Pairwise.nil ⟨.AB [],rfl,.inl ⟨rfl,rfl⟩⟩ (by grind) rfl rfl) ?_;rintro v s1 ⟨rfl,l',h1⟩;obtain⟨y,hy,hw⟩:=h1.ns;obtain⟨y',Ba,hr⟩:=hw.closed;refine AW ?_ (Ag (off:=0) hy rfl ?_)
 .simp[*]
 .exact⟨y',Ba,l',hr,h1.srt List.Pairwise.nil,λw=>by rw[h1.mem]; simp⟩
end
end Go.Proofs.YtpgfpakdnijngaaGreatDoor
