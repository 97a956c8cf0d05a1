/-
  The laws DnfExpand and DnfExpandAny, but for their sanity check.
-/
import Derived.Test.YtpgfpakdnijngaaGreatDoorTH
import Derived.Test.YtpgfpakdnijngaaGreatDoorTC
set_option linter.all false
namespace Go.Proofs.YtpgfpakdnijngaaGreatDoor
open Go.Tel
attribute [local simp] CI Bs LP LQ AO CU FJ wO setCells CJ D6 DV Cv A0 alive CY F9 I4 nx A6 DC BO Gs Dt DT si qd okB sj sk sq sr su jh sw sx sy s7 s8 s9 tA tB tC tD tE okF tF tG tH tI tJ Xs tK SR SU SV SW tL tM tN tP tQ tR tS tT tU tV Fw tW qe tX tY tZ td th tj tq uA uB uC Cm g0 g1 xI xL xM xF xG xC lf Y4 Y5
theorem Lm.Of.fit {q:Lm} {t:Ty} (h:q.Of t) (h1:q.b<1073741824) (h2:q.w<=134217728) (h3:q.n<137438953472):Fit t:=
 ⟨by have:=h.b; show(bw t:Int)<1073741824; omega,by have:=h.w; omega,by have:=h.n; omega⟩
theorem yD {t:Ty} (h:gq 3 t=true) (hv:verdict t=0):Fit t:=by
 obtain⟨_,h1,h2⟩:=Hh hv;have e:gqQ 3=⟨3150,1859359,630225,23403,27⟩:=by rfl
 have:=AFj 3 t h h1 h2;rw[e] at this;exact this.fit (by decide) (by decide) (by decide)
theorem AMl {f:Nat} {t:Ty} (hfit:verdict t=0->Fit t):(xR f t).1.length<2 ^ 60/\∀b∈(xR f t).1,BrS b:=by
 cases f with
 | zero=>grind[xR]
 | succ f=>
  rw[xR];cases hg:!(verdict t==0)||!(Co 0 t) with
  | true=>simp
  | false=>
   simp only[Gc,Bool.not_eq_false',Jk] at hg;obtain⟨ZE,hc⟩:=hg;obtain⟨hv,h200,_⟩:=Hh ZE;have hft:=hfit ZE;simp only[AG];cases lR:DM (AQ 32) (depth t) t with
   | none=>simp
   | some l=>
    simp only;cases (l.map FN).all λb=>Qr b&&b.bounds.all λb=>Dp (xR f b) with
    | false=>simp
    | true=>
     refine⟨by grind[Mi],λb hb=>?_⟩;obtain⟨b0,hb0,rfl⟩:=C0.1 hb;obtain⟨_,q2,q3,q4⟩:=Wd hv hc hft lR b0 hb0;exact⟨by omega,by omega,λc hc=>by have:=(q4 c hc).WL; omega⟩
section
variable {R:RT}
theorem ADu {t:Ty} (hn:Rj R) (hsz:size t<2 ^ 60) (hok:X4 t) (hfit:verdict t=0->Fit t):XOk R t (xR (depth t) t)/\(∀x,BJ t x->AL (env R) 15 [x] λr=>∃a,r=.tuple [a,AA (xR (depth t) t).2]/\Aq a ((xR (depth t) t).1.map DY)):=by
 refine⟨?_,λx hx=>?_⟩
 .rw[<-AXJ (depth t) t λh=>(hfit h).bws]
  grind[gQ]
 .obtain⟨x',h1,h2⟩:=hx.closed [] 0
  exact AL.open (args':=[x']) (by rfl) (by rfl) rfl (by simp[*]) (by simp[AY,h2.Hv]) (cW (depth t) t (Aa _) hsz hok hfit x' h2)
theorem nk (hn:Rj R) (AMm:AL (env R) 16 [] λv=>v=BB true) {W:List (List UInt8)} (hW:(env R).G 1=some (FD W)) (sW:Short W) (h4:W.length=4) (l:List Int) (hl:l.length<2 ^ 50) (n:Int) :
  AL (env R) 3 [.pv (.list (AX l)),AA n] λv=>v=BB true:=by
 refine e3 (u0:=.pv (.list (AX l))) (u1:=AA n) (by simp) (AYF ?_);have hSl:=Src.pF l;have hB:Nj [Mk (.of l) 0] 0 (.of l):=⟨by simp,by simp[Y2],by omega⟩;have hST:∀k,Tel.ST [Mk (.of l) 0] 0 (.of l) k=[Mk (.of l) k]:=λk=>by rfl
 have h0:Kk [Mk (.of l) 0] []:=λb hb=>by grind
 refine Ck (xy l _ _) ?_;rintro v s1 ⟨rfl,rfl⟩;have e0:(⟨[]++[Mk (.of l) 0],[]⟩:AM)=⟨Tel.ST [Mk (.of l) 0] 0 (.of l) 0++[],[]⟩:=by rfl
 show E3 (env R) _ _ _ ⟨[]++[Mk (.of l) 0],[]⟩ _
 rw[e0];refine AD pE ?_;rintro dv ⟨rows,hD⟩;refine AD (cX n 8 (by omega) (by omega)) ?_;rintro v ⟨r,rfl,Xo,Ns⟩;obtain⟨j,hj,ej⟩:∃j:Nat,j<=1/\r.tdiv 7=(j:Int):=by grind
 have AYG:∀K:AV->Prop,K (AA j)->CY .i64 .quo (AA r) (AA 7) K:=by
  intro K hK;rw[<-ej] at hK;simp only[CY,xI];refine⟨⟨Ae,Ae⟩,by omega,B7 ?_ ?_ hK⟩
  .rw[ej]; omega
  .rw[ej]; omega
 refine AYG _ ?_;refine Ck (U2 hB hW h4 sW hD j (by omega) h0 (k:=0) (by omega) (Cv (env R) 3 0 0 0) (by simp) [] (by simp)) ?_;rintro x s1 ⟨t,k1,x1,hx,ht1,_,US,rfl⟩;simp only[hST,Gd,Cb];have hsz:size t<2 ^ 60:=by have:=ht1.1.2; omega
 have hfit:verdict t=0->Fit t:=yD ht1.2;obtain⟨hX1,hX2⟩:=ADu hn hsz ht1.1.1 hfit;obtain⟨PE,AS5⟩:=AMl (f:=depth t) hfit;generalize xR (depth t) t=o at hX1 hX2 PE AS5;obtain⟨xc,rfl⟩:=hx.agg;obtain⟨c1,c2,c3⟩:=hx.cells
 have hs0:BM ⟨[Mk (.of l) k1],x1⟩:=by
  intro d hd
  grind[Y2]
 refine Bt (CL (Ay _ Z4) c1 rfl (by decide) (AI _) c2 (.inl (AI _)) ?_);have e1:([Mk (.of l) k1]++[Z4]).set [Mk (.of l) k1].length xc=[Mk (.of l) k1]++[xc]:=by simp
 show D6 _ ⟨([Mk (.of l) k1]++[Z4]).set [Mk (.of l) k1].length xc,x1⟩ _ _ _
 rw[e1];have hs1:BM ⟨[Mk (.of l) k1]++[xc],x1⟩:=BM.app (s:=⟨[Mk (.of l) k1],x1⟩) hs0 (c3 _);have g1:=Ay [Mk (.of l) k1] xc;generalize [Mk (.of l) k1]++[xc]=bs at hs1 g1;obtain⟨v,s',⟨a,rfl,q1,q2,q3,_,_⟩,hc⟩:=hX1 (.agg xc) hx ⟨bs,x1⟩ hs1 (Cv (env R) 3 0 0 0) rfl rfl rfl;obtain⟨b2,Mq⟩:=s';have g2:b2[[Mk (.of l) k1].length]?=some xc:=B5 q2 g1;refine Ad g1 c1 ⟨_,_,hc,CE rfl (CE rfl (Ad g2 c1 (AD (hX2 _ hx) ?_)))⟩;rintro _ ⟨a2,rfl,Q1⟩;refine CE rfl (CE rfl (AD AMm ?_));rintro _ rfl;refine Ao (Ao (Ao (Au (pk ?_))));have:(o.2==o.2)=true:=by simp
 rw[this];obtain⟨w,⟨e,rfl,he⟩,Tn⟩:=Ni (R:=R) (s:=⟨b2,Mq⟩) (.inl ⟨_,q1⟩) (.inr (.inl Q1)) PE AS5 (Cv (env R) 3 0 0 0);have:e=true:=he.2 rfl;subst this;exact Ao (Ao (Ao ⟨_,_,Tn,pk ⟨_,Fw,rfl⟩⟩))
end
theorem AL.told {E:Env} {f:FuncId} {fn:Func} {T:A8->List AV->AM->Option (AV×AM)} {args:List AV} {v:AV} {Post:AV->Prop} (hfn:E.P.funcs[f]?=some fn) (hc:E.clone f=true) (ht:E.told f=some T) (h:∀L s,T L args s=some (v,s)) (hp:Post v):AL E f args Post:=by
 refine⟨v,hp,λL s=>⟨1,λm hm=>?_⟩⟩;obtain⟨m,rfl⟩:∃k,m=k+1:=⟨m-1,by omega⟩
 grind[Dz,OC]
theorem cn {d:Nat} (h:d<10):(UInt8.ofNat (48+d)).toNat=48+d:=by grind[UInt8.toNat_ofNat']
theorem cq:∀(f k n:Nat) (acc:List UInt8),0<k->n<10 ^ k->(Kc f n acc).length<=acc.length+k
 | 0,k,n,acc,_,_=>by simp[Kc]
 | f+1,k,n,acc,hk,hn=>by
  rw[Kc];cases hb:Nat.blt n 10 with
  | true=>
   grind
  | false=>
   have h10:¬ n<10:=λh=>by grind[Nat.blt,Nat.ble_eq_true_of_le]
   obtain⟨j,rfl⟩:∃j,k=j+1:=⟨k-1,by omega⟩;rw[RQ] at hn;have hj:0<j:=by grind
   have:=cq f j (n / 10) (UInt8.ofNat (48+n % 10)::acc) hj (by omega)
   grind
theorem UF {d a:Nat} (h:d<10) (l:List UInt8):Kl (UInt8.ofNat (48+d)::l) a=Kl l (a*10+d):=by grind[Kl,cn,Nat.ble_eq_true_of_le]
theorem UG:∀(f n:Nat) (acc:List UInt8),n<10 ^ f->Kl (Kc f n acc) 0=Kl acc n
 | 0,n,acc,h=>by
  have:n=0:=by omega
  subst this;rfl
 | f+1,n,acc,h=>by
  rw[Kc];cases hb:Nat.blt n 10 with
  | true=>
   have h10:n<10:=C1 hb
   grind[UF]
  | false=>
   rw[RQ] at h;simp only[AG];rw[UG f (n / 10) _ (by omega),UF (by omega)]
   grind
theorem num {R:RT}:Rj R:=by
 refine⟨λn hn=>?_,λn hn=>?_⟩
 .refine AL.told (fn:=Tryz.f123) (T:=nu) Tryz.func123 (by rfl) (by rfl) (λL s=>?_) rfl
  show(bif Nat.blt n 1099511627776 then some (SS (G0 n),s) else none:Option (AV×AM))=_
  grind[Nat.blt,Nat.ble_eq_true_of_le]
 .have hl:=TG n
  have PE:(G0 n).length<=18:=by
   have:=cq 20 18 n [] (by decide) (Fx hn (by decide))
   assumption
  have hu:Kl (G0 n) 0=some n:=UG 20 n [] (Fx hn (by decide));refine AL.told (fn:=Tryz.f124) (T:=eS) Tryz.func124 (by rfl) (by rfl) (λL s=>?_) rfl
  grind[eS,Nat.ble_eq_true_of_le]
end Go.Proofs.YtpgfpakdnijngaaGreatDoor
