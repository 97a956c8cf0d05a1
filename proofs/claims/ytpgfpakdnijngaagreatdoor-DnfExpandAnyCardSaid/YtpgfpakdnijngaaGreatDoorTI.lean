/-
  The laws DnfExpand and DnfExpandAny, but for their sanity check.
-/
import Derived.Test.YtpgfpakdnijngaaGreatDoorTH
import Derived.Test.YtpgfpakdnijngaaGreatDoorTC
set_option linter.all false
namespace Go.Proofs.YtpgfpakdnijngaaGreatDoor
open Go.Tel
attribute [local simp] Cl Bs Lf Lg AO Cw FJ wO setCells Ci FC Dn Dh Ax alive Cg GD I1 oU A8 DF BO Gx Dv Cz tM oV okB tN tP tQ tR tS eC tT tU tV tW tX tY tZ td th tj tq okF uA uB uC uD uE YE uF S0 S1 S2 S3 uG uH uI uJ rG uK uL uM uN uO Fz uP rH uQ uR uS uT uU uV uW uX uY uZ Co g0 g1 xI xL xM xF xG xC lf Y4 Y5
theorem Lm.Of.fit {q:Lm} {t:Ty} (h:q.Of t) (h1:q.b<1073741824) (h2:q.w<=134217728) (h3:q.n<137438953472):Fit t:=
 ⟨by have:=h.b; show(bw t:Int)<1073741824; omega,by have:=h.w; omega,by have:=h.n; omega⟩
theorem AD8 {t:Ty} (h:lev 4 t=true):Fit t:=by
 have:=(ia 4 t h).1;refine this.fit (Re (by rfl)) (Re (by rfl)) (Re (by rfl))
theorem AMW {f:Nat} {t:Ty} (hfit:verdict t=0->Fit t):(xR f t).1.length<2 ^ 60/\∀b∈(xR f t).1,BrS b:=by
 cases f with
 | zero=>grind[xR]
 | succ f=>
  rw[xR];cases hg:!(verdict t==0)||!(Cv 0 t) with
  | true=>simp
  | false=>
   simp only[Hu,Bool.not_eq_false',K2] at hg;obtain⟨rF,hc⟩:=hg;obtain⟨hv,h200,_⟩:=LU rF;have hft:=hfit rF;simp only[AH];cases l5:DS (AR 32) (depth t) t with
   | none=>simp
   | some l=>
    simp only;cases (l.map FQ).all λb=>RU b&&b.bounds.all λb=>Dw (xR f b) with
    | false=>simp
    | true=>
     refine⟨by grind[Mx],λb hb=>?_⟩;obtain⟨b0,hb0,rfl⟩:=C3.1 hb;obtain⟨_,q2,q3,q4⟩:=XA hv hc hft l5 b0 hb0;exact⟨by omega,by omega,λc hc=>by have:=(q4 c hc).Wr; omega⟩
section
variable {R:RT}
theorem AD9 {t:Ty} (hn:Tl R) (hsz:size t<2 ^ 60) (hok:Vt t) (hfit:verdict t=0->Fit t):XOk R t (xR (depth t) t)/\(∀x,BV t x->AM (env R) 15 [x] λr=>∃a,r=.tuple [a,AB (xR (depth t) t).2]/\Ao a ((xR (depth t) t).1.map Da)):=by
 refine⟨?_,λx hx=>?_⟩
 .rw[<-AWs (depth t) t λh=>(hfit h).bws]
  grind[iA]
 .obtain⟨x',h1,h2⟩:=hx.closed [] 0
  exact AM.open (args':=[x']) (by rfl) (by rfl) rfl (by simp[*]) (by simp[AX,h2.H6]) (c8 (depth t) t (Ac _) hsz hok hfit x' h2)
theorem nX (hn:Tl R) (AMX:AM (env R) 16 [] λv=>v=BB true) {S:List (List UInt8)} (hS:(env R).G 0=some (Gh S)) (sS:Short S) (l:List Int) (hl:l.length<2 ^ 50) :
  AM (env R) 4 [.pv (.list (AW l))] λv=>v=BB true:=by
 refine e4 (u0:=.pv (.list (AW l))) (by simp) (AXi ?_);have hSl:=Src.pZ l;have hB:Qj [KL (.of l) 0] 0 (.of l):=⟨by simp,by simp[ZJ],by omega⟩;have hST:∀k,Tel.ST [KL (.of l) 0] 0 (.of l) k=[KL (.of l) k]:=λk=>by rfl
 have h0:KI [KL (.of l) 0] []:=λb hb=>by grind
 refine EB (yY l _ _) ?_;rintro v s1 ⟨rfl,rfl⟩;have e0:(⟨[]++[KL (.of l) 0],[]⟩:AL)=⟨Tel.ST [KL (.of l) 0] 0 (.of l) 0++[],[]⟩:=by rfl
 show GM (env R) _ _ _ ⟨[]++[KL (.of l) 0],[]⟩ _
 rw[e0];refine EB (ZI hB hS sS 4 (by omega) h0 (k:=0) (by omega) (Dh (env R) 4 0 0 0) (by simp) [] (by simp)) ?_;rintro x s1 ⟨t,k1,x1,hx,ht1,_,ZQ,rfl⟩;simp only[hST,Gb,Ce]
 have hsz:size t<2 ^ 60:=by
  have:=(ia 4 t ht1.2).2
  grind[iZ]
 have hfit:verdict t=0->Fit t:=λ_=>AD8 ht1.2
 obtain⟨hX1,hX2⟩:=AD9 hn hsz ht1.1 hfit;obtain⟨Pb,ASe⟩:=AMW (f:=depth t) hfit;generalize xR (depth t) t=o at hX1 hX2 Pb ASe;obtain⟨xc,rfl⟩:=hx.agg;obtain⟨c1,c2,c3⟩:=hx.cells
 have hs0:BM ⟨[KL (.of l) k1],x1⟩:=by
  intro d hd
  grind[ZJ]
 refine Bq (CG (Az _ Z4) c1 rfl (by decide) (AI _) c2 (.inl (AI _)) ?_);have e1:([KL (.of l) k1]++[Z4]).set [KL (.of l) k1].length xc=[KL (.of l) k1]++[xc]:=by simp
 show FC _ ⟨([KL (.of l) k1]++[Z4]).set [KL (.of l) k1].length xc,x1⟩ _ _ _
 rw[e1];have hs1:BM ⟨[KL (.of l) k1]++[xc],x1⟩:=BM.app (s:=⟨[KL (.of l) k1],x1⟩) hs0 (c3 _);have g1:=Az [KL (.of l) k1] xc;generalize [KL (.of l) k1]++[xc]=bs at hs1 g1;obtain⟨v,s',⟨a,rfl,q1,q2,q3,_,_⟩,hc⟩:=hX1 (.agg xc) hx ⟨bs,x1⟩ hs1 (Dh (env R) 4 0 0 0) rfl rfl rfl;obtain⟨b2,M7⟩:=s';have g2:b2[[KL (.of l) k1].length]?=some xc:=B6 q2 g1;refine Ae g1 c1 ⟨_,_,hc,CB rfl (CB rfl (Ae g2 c1 (AD (hX2 _ hx) ?_)))⟩;rintro _ ⟨a2,rfl,S9⟩;refine CB rfl (CB rfl (AD AMX ?_));rintro _ rfl;refine Am (Am (Am (Ay (pk ?_))));have:(o.2==o.2)=true:=by simp
 rw[this];obtain⟨w,⟨e,rfl,he⟩,UK⟩:=N2 (R:=R) (s:=⟨b2,M7⟩) (.inl ⟨_,q1⟩) (.inr (.inl S9)) Pb ASe (Dh (env R) 4 0 0 0);have:e=true:=he.2 rfl;subst this;exact Am (Am (Am ⟨_,_,UK,pk ⟨_,Fz,rfl⟩⟩))
end
theorem AM.told {E:Env} {f:FuncId} {fn:Func} {T:A3->List AV->AL->Option (AV×AL)} {args:List AV} {v:AV} {Post:AV->Prop} (hfn:E.P.funcs[f]?=some fn) (hc:E.clone f=true) (ht:E.told f=some T) (h:∀L s,T L args s=some (v,s)) (hp:Post v):AM E f args Post:=by
 refine⟨v,hp,λL s=>⟨1,λm hm=>?_⟩⟩;obtain⟨m,rfl⟩:∃k,m=k+1:=⟨m-1,by omega⟩
 grind[Dl,OU]
theorem dD {d:Nat} (h:d<10):(UInt8.ofNat (48+d)).toNat=48+d:=by grind[UInt8.toNat_ofNat']
theorem dF:∀(f k n:Nat) (acc:List UInt8),0<k->n<10 ^ k->(Kn f n acc).length<=acc.length+k
 | 0,k,n,acc,_,_=>by simp[Kn]
 | f+1,k,n,acc,hk,hn=>by
  rw[Kn];cases hb:Nat.blt n 10 with
  | true=>
   grind
  | false=>
   have h10:¬ n<10:=λh=>by grind[Nat.blt,Nat.ble_eq_true_of_le]
   obtain⟨j,rfl⟩:∃j,k=j+1:=⟨k-1,by omega⟩;rw[Rq] at hn;have hj:0<j:=by grind
   have:=dF f j (n / 10) (UInt8.ofNat (48+n % 10)::acc) hj (by omega)
   grind
theorem Ug {d a:Nat} (h:d<10) (l:List UInt8):Kw (UInt8.ofNat (48+d)::l) a=Kw l (a*10+d):=by grind[Kw,dD,Nat.ble_eq_true_of_le]
theorem Uh:∀(f n:Nat) (acc:List UInt8),n<10 ^ f->Kw (Kn f n acc) 0=Kw acc n
 | 0,n,acc,h=>by
  have:n=0:=by omega
  subst this;rfl
 | f+1,n,acc,h=>by
  rw[Kn];cases hb:Nat.blt n 10 with
  | true=>
   have h10:n<10:=Cm hb
   grind[Ug]
  | false=>
   rw[Rq] at h;simp only[AH];rw[Uh f (n / 10) _ (by omega),Ug (by omega)]
   grind
theorem num {R:RT}:Tl R:=by
 refine⟨λn hn=>?_,λn hn=>?_⟩
 .refine AM.told (fn:=Tryz.f123) (T:=oQ) Tryz.func123 (by rfl) (by rfl) (λL s=>?_) rfl
  show(bif Nat.blt n 1099511627776 then some (SS (G5 n),s) else none:Option (AV×AL))=_
  grind[Nat.blt,Nat.ble_eq_true_of_le]
 .have hl:=Tk n
  have Pb:(G5 n).length<=18:=by
   have:=dF 20 18 n [] (by decide) (F0 hn (by decide))
   assumption
  have hu:Kw (G5 n) 0=some n:=Uh 20 n [] (F0 hn (by decide));refine AM.told (fn:=Tryz.f124) (T:=fH) Tryz.func124 (by rfl) (by rfl) (λL s=>?_) rfl
  grind[fH,Nat.ble_eq_true_of_le]
end Go.Proofs.YtpgfpakdnijngaaGreatDoor
