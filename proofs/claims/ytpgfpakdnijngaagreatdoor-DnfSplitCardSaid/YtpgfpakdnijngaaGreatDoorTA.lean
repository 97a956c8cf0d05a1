/-
  Terms ts plain data; their size and depth.
-/
import Derived.Test.YtpgfpakdnijngaaGreatDoorW1
import Derived.Test.YtpgfpakdnijngaaGreatDoorWpH
set_option linter.all false
namespace Go.Proofs.YtpgfpakdnijngaaGreatDoor
open Go.Tel
attribute [local simp] Ia Mt Js KW ER Fh Eo wO setCells IM D5 DF Ce E2 alive DX KF Tl gY HW JM HI Ib Lr JN oY kj okB oZ oa oc od og fP oh oo oq ot ou ow oz o5 o6 o7 o8 okF o9 pE pF pG pH V7 pI Qm Qn Qo Qp pJ pK pL pM pN pO pP pQ pR pS Hu pT kn pU pV pW pX pY pZ pg pn pq pz Cp
inductive Ty where
 | mk (kind:Int) (name:List UInt8) (index:Int) (args:List Ty)
mutual
def Aj:Ty->List PV
 | .mk k n i ts=>[.sc (.int .i64 k),.sc (.string ⟨n.toArray⟩),.sc (.int .i64 i),.list (Ad ts)]
def Ad:List Ty->List (List PV)
 | []=>[]
 | v::vs=>Aj v::Ad vs
end
theorem Ic:∀l,Ad l=l.map Aj
 | []=>by rfl
 | v::vs=>by simp[Ad,Ic vs]
theorem Al (v:Ty):(Aj v).length=4:=by cases v; rfl
theorem Aa (l:List Ty):(Ad l).length=l.length:=by simp[Ic]
theorem BJ {l:List Ty} {i:Nat} {a:Ty} (h:l[i]?=some a):(Ad l)[i]?=some (Aj a):=by grind[Ic]
def A7 (v:Ty) (x:AV):Prop:=match v with
 | .mk k n i ts=>∃a,x=.agg [AG k,SS n,AG i,a]/\A2 a (Ad ts)
theorem A7.Bi (v:Ty):A7 v (.agg ((Aj v).map .pv)):=by
 cases v with
 | mk k n s es=>exact⟨_,AR,.list _⟩
theorem drop_cons {α:Type} {l:List α} {i:Nat} {a:α} (h:l[i]?=some a):l.drop i=a::l.drop (i+1):=by grind[List.drop_eq_getElem_cons]
mutual
def size:Ty->Nat
 | .mk _ _ _ ts=>Ac ts+1
def Ac:List Ty->Nat
 | []=>0
 | a::l=>size a+Ac l
end
mutual
def depth:Ty->Nat
 | .mk _ _ _ ts=>Cf ts+1
def Cf:List Ty->Nat
 | []=>0
 | a::l=>max (depth a) (Cf l)
end
theorem size_pos (t:Ty):0<size t:=by cases t; simp[size]
theorem BV:∀l:List Ty,l.length<=Ac l
 | []=>by simp
 | a::l=>by
  have:=size_pos a;have:=BV l
  grind[Ac]
mutual
theorem Tm:∀t:Ty,depth t<=size t
 | .mk _ _ _ ts=>by
  have:=Wv ts
  grind[depth,size]
theorem Wv:∀l:List Ty,Cf l<=Ac l
 | []=>by simp[Cf]
 | a::l=>by
  have:=Tm a;have:=Wv l
  grind[Cf,Ac]
end
theorem F6:∀{l:List Ty} {a:Ty},a∈l->size a<=Ac l
 | [],_,h=>by cases h
 | b::l,a,h=>by
  simp only[Ac];rcases A5.1 h with rfl|h
  .omega
  .have:=F6 h; omega
section
variable {R:Nat->Option (List PV)}
theorem p9 {ts:List Ty} {a:AV} (ha:A2 a (Ad ts)) (hl:Ac ts<2 ^ 60) (ih:∀t∈ts,Af (env R) 84 [.agg ((Aj t).map .pv)] λr=>r=AG (size t)) {Post:AV->Prop} :
  ∀(j i c:Nat) (s:AQ),i+j=ts.length->c+Ac (ts.drop i)<2 ^ 61->Post (AG ((c+Ac (ts.drop i):Nat):Int))->ACn R 0 0 0 (AG c) a (AG ts.length) (AG i) s (QP Post):=by
 have Tn:=BV ts;intro j
 induction j with
 | zero=>
  intro i c s hi hc hP;refine ACo ?_;have h1:¬ ((i:Int)<ts.length):=AA;simp[h1];refine AN0 ?_
  simp_all[QP,Ac]
 | succ j D1=>
  intro i c s hi hc hP;refine ACo ?_;have h1:((i:Int)<ts.length):=AA;obtain⟨t,ht⟩:∃t,ts[i]?=some t:=⟨_,Au AA⟩;have hd:=drop_cons ht;rw[hd] at hP hc;simp only[Ac] at hP hc;simp[h1];refine AN1 ?_;refine BM ha (row:=Aj t) AA (by grind[BJ]) (Al t) AA ?_;have e3:=ih t (A3 ht);have e4:size t<=Ac ts:=F6 (A3 ht);obtain⟨k,n,x,es⟩:=t;simp only[Aj,CO,Co] at e3;simp[Aj,S0,Tp,S1,Tq];refine AL e3 ?_;rintro v rfl;simp only[DX];refine⟨⟨Ap,Ap⟩,CS AA AA (AN2 ?_)⟩;simp only[DX];refine⟨⟨Ap,Ap⟩,CS AA AA ?_⟩;have:=D1 (i+1) (c+size (.mk k n x es)) ⟨s.bs++[[AG k,SS n,AG x,.pv (.list (Ad es))]],s.ts⟩ AA AA AB
  grind
mutual
theorem Qq:∀(t:Ty),size t<2 ^ 60->∀(x:AV),A7 t x->Af (env R) 84 [x] λr=>r=AG (size t)
 | .mk k n i ts,h,x,hx=>by
  obtain⟨a,rfl,ha⟩:=hx;simp only[size] at h;have ih:=Tr ts AA;refine e84 (u0:=.agg [AG k,SS n,AG i,a]) (by simp[ha.close]) (AN3 ?_);simp[ha.ok,ha.BA,Aa];refine p9 ha AA ih ts.length 0 1 _ AA AB ?_
  grind[size]
theorem Tr:∀(l:List Ty),Ac l<2 ^ 60->∀t∈l,Af (env R) 84 [.agg ((Aj t).map .pv)] λr=>r=AG (size t)
 | [],_,_,h=>by cases h
 | e::l,ho,a,h=>by
  simp only[Ac] at ho;rcases A5.1 h with h' | h'
  .rw[h']
   exact Qq e AA _ (A7.Bi e)
  .exact Tr l AA a h'
end
end
section
variable {R:Nat->Option (List PV)}
theorem gZ {k i:Int} {n:List UInt8} {ts:List Ty} {a:AV} (ha:A2 a (Ad ts)) (hl:Ac ts<2 ^ 60) (ih:∀t∈ts,Af (env R) 71 [.agg ((Aj t).map .pv)] λr=>r=AG (size t)) {Post:AV->Prop} :
  ∀(j q c:Nat),q+j=ts.length->c+Ac (ts.drop q)<2 ^ 61->Post (AG ((c+Ac (ts.drop q):Nat):Int))->ACp R 0 0 0 (.ptr 0 0) (AG c) (AG q) ⟨[[AG k,SS n,AG i,a]],[]⟩ (QP Post):=by
 have Tn:=BV ts;intro j
 induction j with
 | zero=>
  intro q c hi hc hP;refine ACq ?_;have h1:¬ ((q:Int)<ts.length):=AA;simp[ha.BA,Aa,h1];refine AN4 ?_
  simp_all[QP,Ac]
 | succ j D1=>
  intro q c hi hc hP;refine ACq ?_;have h1:((q:Int)<ts.length):=AA;obtain⟨t,ht⟩:∃t,ts[q]?=some t:=⟨_,Au AA⟩;have hd:=drop_cons ht;rw[hd] at hP hc;simp only[Ac] at hP hc;simp[ha.BA,Aa,h1];refine AN5 ?_;simp;refine BM ha (row:=Aj t) AA (by grind[BJ]) (Al t) AA ?_;have e3:=ih t (A3 ht);have e4:size t<=Ac ts:=F6 (A3 ht);obtain⟨k,n,x,es⟩:=t;simp only[Aj,CO,Co] at e3;simp[Aj];refine AL e3 ?_;rintro v rfl;simp only[DX];refine⟨⟨Ap,Ap⟩,CS AA AA (AN6 ?_)⟩;simp only[DX];refine⟨⟨Ap,Ap⟩,CS AA AA ?_⟩;have:=D1 (q+1) (c+size (.mk k n x es)) AA AA (by simpa[YP] using hP);simpa using this
mutual
theorem OP:∀(t:Ty),size t<2 ^ 60->∀(x:AV),A7 t x->Af (env R) 71 [x] λr=>r=AG (size t)
 | .mk k n i ts,h,x,hx=>by
  obtain⟨a,rfl,ha⟩:=hx;simp only[size] at h;have ih:=Ro ts AA;refine e71 (u0:=.agg [AG k,SS n,AG i,a]) (by simp[ha.close]) (AN7 ?_);simp[ha.ok];refine gZ ha AA ih ts.length 0 1 AA AB ?_
  grind[size]
theorem Ro:∀(l:List Ty),Ac l<2 ^ 60->∀t∈l,Af (env R) 71 [.agg ((Aj t).map .pv)] λr=>r=AG (size t)
 | [],_,_,h=>by cases h
 | e::l,ho,a,h=>by
  simp only[Ac] at ho;rcases A5.1 h with h' | h'
  .rw[h']
   exact OP e AA _ (A7.Bi e)
  .exact Ro l AA a h'
end
theorem gh {ts:List Ty} {a:AV} (ha:A2 a (Ad ts)) (hl:Ac ts<2 ^ 60) (ih:∀t∈ts,Af (env R) 85 [.agg ((Aj t).map .pv)] λr=>r=AG (depth t)) {Post:AV->Prop} :
  ∀(j i c:Nat) (s:AQ),i+j=ts.length->c<2 ^ 60->Post (AG ((max c (Cf (ts.drop i))+1:Nat):Int))->ACr R 0 0 0 (AG c) a (AG ts.length) (AG i) s (QP Post):=by
 have Tn:=BV ts;intro j
 induction j with
 | zero=>
  intro i c s hi hc hP;refine ACs ?_;have h1:¬ ((i:Int)<ts.length):=AA;simp[h1];refine AN8 ?_;have h2:ts.drop i=[]:=CH AA;rw[h2] at hP;simp only[Cf,Nat.max_zero] at hP;simp only[DX];refine⟨⟨Ap,Ap⟩,CS AA AA ?_⟩;exact⟨_,Hu,AB⟩
 | succ j D1=>
  intro i c s hi hc hP;refine ACs ?_;have h1:((i:Int)<ts.length):=AA;obtain⟨t,ht⟩:∃t,ts[i]?=some t:=⟨_,Au AA⟩;have hd:=drop_cons ht;rw[hd] at hP;simp only[Cf] at hP;simp[h1];refine AN9 ?_;refine BM ha (row:=Aj t) AA (by grind[BJ]) (Al t) AA ?_;have e3:=ih t (A3 ht);have e4:size t<=Ac ts:=F6 (A3 ht);have e5:=Tm t;obtain⟨k,n,x,es⟩:=t;simp only[Aj,CO,Co] at e3;simp[Aj,S0,Tp,S1,Tq];refine AL e3 ?_;rintro v rfl;refine Ww (x:=.tmp 13) (y:=.tmp 15) (t:=#[3,3]) AR rfl rfl (AOA ?_);simp only[DX];refine⟨⟨Ap,Ap⟩,CS AA AA ?_⟩;have:=D1 (i+1) (max c (depth (.mk k n x es))) ⟨s.bs++[[AG k,SS n,AG x,.pv (.list (Ad es))]],s.ts⟩ AA AA AB
  grind
mutual
theorem Ts:∀(t:Ty),size t<2 ^ 60->∀(x:AV),A7 t x->Af (env R) 85 [x] λr=>r=AG (depth t)
 | .mk k n i ts,h,x,hx=>by
  obtain⟨a,rfl,ha⟩:=hx;simp only[size] at h;have ih:=Rp ts AA;refine e85 (u0:=.agg [AG k,SS n,AG i,a]) (by simp[ha.close]) (AOB ?_);simp[ha.ok,ha.BA,Aa];refine gh ha AA ih ts.length 0 0 _ AA AA ?_;rfl
theorem Rp:∀(l:List Ty),Ac l<2 ^ 60->∀t∈l,Af (env R) 85 [.agg ((Aj t).map .pv)] λr=>r=AG (depth t)
 | [],_,_,h=>by cases h
 | e::l,ho,a,h=>by
  simp only[Ac] at ho;rcases A5.1 h with h' | h'
  .rw[h']
   exact Ts e AA _ (A7.Bi e)
  .exact Rp l AA a h'
end
theorem bM {k i:Int} {n:List UInt8} {ts:List Ty} {a:AV} (ha:A2 a (Ad ts)) (hl:Ac ts<2 ^ 60) (ih:∀t∈ts,Af (env R) 72 [.agg ((Aj t).map .pv)] λr=>r=AG (depth t)) {Post:AV->Prop} :
  ∀(j q c:Nat),q+j=ts.length->c<2 ^ 60->Post (AG ((max c (Cf (ts.drop q))+1:Nat):Int))->ACt R 0 0 0 (.ptr 0 0) (AG c) (AG q) ⟨[[AG k,SS n,AG i,a]],[]⟩ (QP Post):=by
 have Tn:=BV ts;intro j
 induction j with
 | zero=>
  intro q c hi hc hP;refine ACu ?_;have h1:¬ ((q:Int)<ts.length):=AA;simp[ha.BA,Aa,h1];refine AOC ?_;have h2:ts.drop q=[]:=CH AA;rw[h2] at hP;simp only[Cf,Nat.max_zero] at hP;simp only[DX];refine⟨⟨Ap,Ap⟩,CS AA AA ?_⟩;exact⟨_,Hu,AB⟩
 | succ j D1=>
  intro q c hi hc hP;refine ACu ?_;have h1:((q:Int)<ts.length):=AA;obtain⟨t,ht⟩:∃t,ts[q]?=some t:=⟨_,Au AA⟩;have hd:=drop_cons ht;rw[hd] at hP;simp only[Cf] at hP;simp[ha.BA,Aa,h1];refine AOD ?_;simp;refine BM ha (row:=Aj t) AA (by grind[BJ]) (Al t) AA ?_;have e3:=ih t (A3 ht);have e4:size t<=Ac ts:=F6 (A3 ht);have e5:=Tm t;obtain⟨k,n,x,es⟩:=t;simp only[Aj,CO,Co] at e3;simp[Aj];refine AL e3 ?_;rintro v rfl;refine Ww (x:=.tmp 12) (y:=.tmp 18) (t:=#[3,3]) AR rfl rfl (AOE ?_);simp only[DX];refine⟨⟨Ap,Ap⟩,CS AA AA ?_⟩;have:=D1 (q+1) (max c (depth (.mk k n x es))) AA AA AB
  grind
mutual
theorem Rq:∀(t:Ty),size t<2 ^ 60->∀(x:AV),A7 t x->Af (env R) 72 [x] λr=>r=AG (depth t)
 | .mk k n i ts,h,x,hx=>by
  obtain⟨a,rfl,ha⟩:=hx;simp only[size] at h;have ih:=PW ts AA;refine e72 (u0:=.agg [AG k,SS n,AG i,a]) (by simp[ha.close]) (AOF ?_);simp[ha.ok];refine bM ha AA ih ts.length 0 0 AA AA ?_;rfl
theorem PW:∀(l:List Ty),Ac l<2 ^ 60->∀t∈l,Af (env R) 72 [.agg ((Aj t).map .pv)] λr=>r=AG (depth t)
 | [],_,_,h=>by cases h
 | e::l,ho,a,h=>by
  simp only[Ac] at ho;rcases A5.1 h with h' | h'
  .rw[h']
   exact Rq e AA _ (A7.Bi e)
  .exact PW l AA a h'
end
end
def EE (k:Int) (j:Nat):Nat:=bif k==6&&j==1 then 1 else 0
mutual
def CP (u:Nat):Ty->Bool
 | .mk k _ i ts=>bif k==5&&decide ((u:Int)<=i) then false else EF u k 0 ts
def EF (u:Nat) (k:Int) (j:Nat):List Ty->Bool
 | []=>true
 | t::l=>CP (u+EE k j) t&&EF u k (j+1) l
end
mutual
theorem PX:∀t:Ty,Mg (Aj t) (Aj t)=true
 | .mk k n i ts=>by simp[Aj,Mg,NZ,FQ,IP,DR ts]
theorem DR:∀l:List Ty,I1 (Ad l) (Ad l)=true
 | []=>by rfl
 | t::l=>by simp[Ad,I1,PX t,DR l]
end
theorem Qr (k:Int) (j:Nat):EE k j<=1:=by grind[EE]
section
variable {R:Nat->Option (List PV)}
theorem Ls {k i:Int} {n:List UInt8} {a:AV} {rows:List (List PV)} (ha:A2 a rows) (j:Nat):Af (env R) 119 [.agg [AG k,SS n,AG i,a],AG j] λr=>r=AG (EE k j):=by
 refine AXk (u0:=.agg [AG k,SS n,AG i,a]) (u1:=AG j) (by simp[ha.close]) (AGE ?_);have h2:(((j:Int))==1)=(j==1):=AB;cases h1:(k==6) with
 | false=>
  simp[-beq_iff_eq,ha.ok,h1];refine uN ?_;simp[*,QP,EE]
 | true=>
  cases h3:(j==1) with
  | false=>
   rw[h3] at h2;simp[-beq_iff_eq,ha.ok,h1,h2];refine uN ?_;simp[*,QP,EE]
  | true=>
   rw[h3] at h2;simp[-beq_iff_eq,QP,QI,ha.ok,h1,h2,EE,h3]
theorem V8 {k i:Int} {n:List UInt8} {a:AV} {rows:List (List PV)} (ha:A2 a rows) (j:Nat):Af (env R) 151 [.agg [AG k,SS n,AG i,a],AG j] λr=>r=AG (EE k j):=by
 refine AXl (u0:=.agg [AG k,SS n,AG i,a]) (u1:=AG j) (by simp[ha.close]) (AGF ?_);have h2:(((j:Int))==1)=(j==1):=AB;cases h1:(k==6) with
 | false=>
  simp[-beq_iff_eq,ha.ok,h1];refine uO ?_;simp[*,QP,EE]
 | true=>
  cases h3:(j==1) with
  | false=>
   rw[h3] at h2;simp[-beq_iff_eq,ha.ok,h1,h2];refine uO ?_;simp[*,QP,EE]
  | true=>
   rw[h3] at h2;simp[-beq_iff_eq,QP,QI,ha.ok,h1,h2,EE,h3]
theorem bN {k i:Int} {n:List UInt8} {ts:List Ty} {a:AV} {u:Nat} (ha:A2 a (Ad ts)) (hl:Ac ts<2 ^ 60) (hu:u<2 ^ 60)
  (ih:∀t∈ts,∀v,v<=u+1->Af (env R) 141 [.agg ((Aj t).map .pv),AG v] λr=>r=BB (CP v t)) {Post:AV->Prop} :
  ∀(j q:Nat) (m:List (List AV)),q+j=ts.length->Post (BB (EF u k q (ts.drop q)))->uP R 0 0 0 (AG u) (.ptr 0 0) a (AG ts.length) (AG q) ⟨[AG k,SS n,AG i,a]::m,[]⟩ (QP Post):=by
 have Tn:=BV ts;intro j
 induction j with
 | zero=>
  intro q m hi hP;refine uQ ?_;have h1:¬ ((q:Int)<ts.length):=AA;simp[h1];refine AGG ?_
  simp_all[QP,EF]
 | succ j D1=>
  intro q m hi hP;refine uQ ?_;have h1:((q:Int)<ts.length):=AA;obtain⟨t,ht⟩:∃t,ts[q]?=some t:=⟨_,Au AA⟩;have hd:=drop_cons ht;rw[hd] at hP;simp only[EF] at hP;simp[h1];refine AGH ?_;refine BM ha (row:=Aj t) AA (by grind[BJ]) (Al t) AA ?_;have hb:=Qr k q;have e3:=ih t (A3 ht) (u+EE k q) AA;obtain⟨k',n',x,es⟩:=t;simp only[Aj,CO,Co] at e3;simp[Aj,S0,Tp,S1,Tq];refine AL (Ls ha q) ?_;rintro v rfl;simp only[DX];refine⟨⟨Ap,Ap⟩,CS AA AA ?_⟩;have ec:(u:Int)+(EE k q:Int)=((u+EE k q:Nat):Int):=AA;rw[ec];refine AL e3 ?_;rintro v rfl;cases hc:CP (u+EE k q) (.mk k' n' x es) with
  | false=>
   rw[hc] at hP;simp[QP,QI,Dg,JG,NZ,FQ,IP,DR]
   grind
  | true=>
   rw[hc] at hP;simp[Dg,JG,NZ,FQ,IP,DR];refine AGI ?_;simp only[DX];refine⟨⟨Ap,Ap⟩,CS AA AA ?_⟩;have:=D1 (q+1) (m++[[AG k',SS n',AG x,.pv (.list (Ad es))]]) AA (by simpa using hP);simpa using this
mutual
theorem Mu:∀(t:Ty),size t<2 ^ 60->∀(u:Nat),u+size t<2 ^ 60->∀(x:AV),A7 t x->Af (env R) 141 [x,AG u] λr=>r=BB (CP u t)
 | .mk k n i ts,h,u,hu,x,hx=>by
  obtain⟨a,rfl,ha⟩:=hx;simp only[size] at h hu;have ih:=PY ts AA (u+1) AA
  suffices H:∀Post:AV->Prop,Post (BB (CP u (.mk k n i ts)))->uR R 0 0 0 (.agg [AG k,SS n,AG i,a]) (AG u) ⟨[],[]⟩ (QP Post) from
   AXm (u0:=.agg [AG k,SS n,AG i,a]) (u1:=AG u) (by simp[ha.close]) (H _ rfl)
  intro Post Gk;refine AGJ ?_;simp only[CP] at Gk
  have go:Post (BB (EF u k 0 ts))->uS R 0 0 0 (AG u) (.ptr 0 0) ⟨[[AG k,SS n,AG i,a]],[]⟩ (QP Post):=by
   intro hP;refine AGK ?_;simp[ha.BA,Aa];exact bN (m:=[]) ha AA AA ih ts.length 0 AA AB
  cases h1:(k==5) with
  | false=>
   rw[h1] at Gk;simp[-beq_iff_eq,ha.ok,h1]
   grind
  | true=>
   rw[h1] at Gk;cases h2:decide ((u:Int)<=i) with
   | true=>
    rw[h2] at Gk;simpa[-beq_iff_eq,-decide_eq_true_eq,QP,QI,ha.ok,h1,h2] using Gk
   | false=>
    rw[h2] at Gk;simp[-beq_iff_eq,-decide_eq_false_iff_not,ha.ok,h1,h2]
    grind
theorem PY:∀(l:List Ty),Ac l<2 ^ 60->∀(w:Nat),w+Ac l<2 ^ 60->∀t∈l,∀v,v<=w->Af (env R) 141 [.agg ((Aj t).map .pv),AG v] λr=>r=BB (CP v t)
 | [],_,_,_,_,h=>by cases h
 | e::l,ho,w,hw,a,h=>by
  simp only[Ac] at ho hw;rcases A5.1 h with h' | h'
  .rw[h']
   exact λv hv=>Mu e AA v AA _ (A7.Bi e)
  .exact PY l AA w AA a h'
end
end
theorem KX {l:List Int} {i:Nat} {n:Int} (h:l[i]?=some n):(Ab l)[i]?=some [.sc (.int .i64 n)]:=by grind[Ab]
theorem uT {a:AV} {ts:List Ty} (h:A2 a (Ad ts)):Dg a a=true:=by
 rcases h with rfl|rfl <;> simp[Dg,NZ,DR]
theorem Lt:∀l:List Int,I1 (Ab l) (Ab l)=true
 | []=>by rfl
 | t::l=>by
  have:=Lt l
  grind[Ab,I1,Mg,NZ,FQ]
section
variable {R:Nat->Option (List PV)}
theorem bO {l:List Int} {x:AV} (hx:A2 x (Ab l)) (hl:l.length<2 ^ 40) (v:Int) {Post:AV->Prop} (hP:∀r m,A2 r (Ab m)->m≠[]->m.length<=l.length+1->Post r) (q:Nat) (hq:q<=l.length) :
  uU R 0 0 0 x (AG v) (AG q) ⟨[],[]⟩ (QP Post):=by
 refine AGL ?_;have hlen:(Ab l).length=l.length:=BF l;have hall:((Ab l).all λr=>r.length==1)=true:=by grind[DW]
 have slc:∀(lo hi:Option AV) (a b:Nat) (s:AQ) (K:AV->Prop),Fy 0 lo=some a->Fy l.length hi=some b->a<=b->b<=l.length->K (.pv (.list (((Ab l).take b).drop a)))->qA s 1 x lo hi none K:=by
  intro lo hi a b s K h1 h2 h3 h4 hK;have hr:=hx.rowsOf;rcases hx with rfl|rfl
  .simp only[qA,hr,wO,hlen]
   exact⟨a,b,h1,h2,⟨h3,h4,hall⟩,hK⟩
  .simp only[qA,hr,wO,hlen]
   exact⟨a,b,h1,h2,⟨h3,h4,hall⟩,hK⟩
 have hq1:Fy 0 (some (AG q))=some q:=AR;have hq2:Fy l.length (some (AG q))=some q:=AR;have e0:((Ab l).take q).drop 0=Ab (l.take q):=by simp[*,Ab]
 have e1:((Ab l).take l.length).drop q=Ab (l.drop q):=by grind[Ab,List.map_drop]
 simp[HJ,Fu,Eo,wO,Cp,CI];refine slc none (some (AG q)) 0 q _ _ rfl hq2 AA hq ?_;rw[e0];have hL:∀(m:List Int),m.length=(Ab m).length:=λm=>(BF m).symm
 refine Qs (ts:=[]) (x:=[]) (rows:=[]) (m:=Ab (l.take q)) (.inl rfl) AD AD DW AA (Dh (.inl (.list _)) DW) OQ AB AB ?_;intro a1 x1 ha1;simp[HJ,Fu,Eo,wO,Cp,CI,setCells];refine Qs (ts:=[]) (m:=Ab [v]) ha1 AD AB DW AA (Dh (.inl (.AE _)) DW) OQ AB AB ?_;intro a2 x2 SH;refine slc (some (AG q)) none q l.length _ _ hq1 rfl hq AA ?_;rw[e1];have e2:[]++Ab (l.take q)++Ab [v]=Ab (l.take q++[v]):=by simp[Ab]
 rw[e2] at SH;refine Qs (ts:=[]) (m:=Ab (l.drop q)) SH AD DW DW AA (Dh (.inl (.list _)) DW) OQ AB AB ?_;intro a3 x3 z7;have e3:Ab (l.take q++[v])++Ab (l.drop q)=Ab (l.take q++[v]++l.drop q):=by simp[Ab]
 rw[e3] at z7;refine⟨?_,?_,?_⟩
 .refine slc (some (AG q)) none q l.length _ _ hq1 rfl hq AA ?_
  grind[Dg,NZ,Lt]
 .refine slc (some (AG q)) none q l.length _ _ hq1 rfl hq AA ?_
  grind[Dg,NZ,Lt]
 .obtain⟨v',h1,h2⟩:=z7.A1.closed ([]:List (List AV)) 0
  exact⟨v',h1,hP _ _ h2 AD AB⟩
theorem bP {l:List Int} {x:AV} (hx:A2 x (Ab l)) (hl:l.length<2 ^ 40) (v:Int) {Post:AV->Prop} (hP:∀r m,A2 r (Ab m)->m≠[]->m.length<=l.length+1->Post r) (q:Nat) (hq:q<=l.length) :
  uV R 0 0 0 x (AG v) (AG q) ⟨[],[]⟩ (QP Post):=by
 refine AGM ?_;have hlen:(Ab l).length=l.length:=BF l
 by_cases h:q<l.length
 .have h1:((q:Int)<l.length):=by omega
  obtain⟨t,ht⟩:∃t,l[q]?=some t:=⟨_,Au AA⟩;simp[hx.BA,hlen,h1];refine BM hx (row:=[.sc (.int .i64 t)]) AA (by grind[KX]) rfl AA ?_;simp;refine⟨λ_=>?_,λ_=>bO hx hl v hP q hq⟩;simp[QP,QI,hx.close]
  grind
 .have h1:¬ ((q:Int)<l.length):=by omega
  simp[hx.BA,hlen,h1]
  grind[bO]
theorem qB {l:List Int} {x:AV} (hx:A2 x (Ab l)) (hl:l.length<2 ^ 40) (v:Int) {Post:AV->Prop} (hP:∀r m,A2 r (Ab m)->m≠[]->m.length<=l.length+1->Post r) :
  ∀(j q:Nat),q+j=l.length->uW R 0 0 0 x (AG v) (AG q) ⟨[],[]⟩ (QP Post):=by
 have hlen:(Ab l).length=l.length:=BF l;intro j
 induction j with
 | zero=>
  intro q hq;refine uX ?_;have h1:¬ ((q:Int)<l.length):=AA;simp[hx.BA,hlen,h1]
  grind[bP]
 | succ j ih=>
  intro q hq;refine uX ?_;have h1:((q:Int)<l.length):=AA;obtain⟨t,ht⟩:∃t,l[q]?=some t:=⟨_,Au AA⟩;simp[hx.BA,hlen,h1];refine BM hx (row:=[.sc (.int .i64 t)]) AA (by simp[*,KX]) rfl AA ?_;simp;refine⟨λ_=>?_,λ_=>bP hx hl v hP q AA⟩;refine AGN ?_;simp only[DX];refine⟨⟨Ap,Ap⟩,CS AA AA ?_⟩;have:=ih (q+1) AA
  grind
theorem Tt {l:List Int} {x:AV} (hx:A2 x (Ab l)) (hl:l.length<2 ^ 40) (v:Int):Af (env R) 150 [x,AG v] λr=>∃m,A2 r (Ab m)/\m≠[]/\m.length<=l.length+1:=by
 refine AXn (u0:=x) (u1:=AG v) (by simp[hx.close]) (AGO ?_);exact qB hx hl v (λr m h1 h2 h3=>⟨m,h1,h2,h3⟩) l.length 0 AA
theorem Qt {k i:Int} {n:List UInt8} {ts:List Ty} {a:AV} {u:Nat} (ha:A2 a (Ad ts)) (hl:Ac ts<2 ^ 39) (hu:u<2 ^ 60)
  (ih:∀t∈ts,∀v,v<=u+1->∀(l:List Int) (y:AV),A2 y (Ab l)->l.length+size t<2 ^ 40 ->
   Af (env R) 126 [.agg ((Aj t).map .pv),AG v,y] λr=>∃m,A2 r (Ab m)/\(m=[]<->l=[]/\CP v t=true)/\m.length<=l.length+size t) {Post:AV->Prop} :
  ∀(j q:Nat) (l:List Int) (y:AV),A2 y (Ab l)->l.length+Ac (ts.drop q)<2 ^ 40->q+j=ts.length ->
   (∀r m,A2 r (Ab m)->(m=[]<->l=[]/\EF u k q (ts.drop q)=true)->m.length<=l.length+Ac (ts.drop q)->Post r) ->
   uY R 0 0 0 (AG u) y (.ptr 0 0) (AG q) ⟨[[AG k,SS n,AG i,a]],[]⟩ (QP Post):=by
 have Tn:=BV ts;intro j
 induction j with
 | zero=>
  intro q l y hy hc hi hP;refine uZ ?_;have h1:¬ ((q:Int)<ts.length):=AA;simp[ha.BA,Aa,h1];refine AGP ?_;have h2:ts.drop q=[]:=CH AA;rw[h2] at hP;exact⟨y,hy.close _ _ _,hP y l hy (by simp[EF]) AD⟩
 | succ j D1=>
  intro q l y hy hc hi hP;refine uZ ?_;have h1:((q:Int)<ts.length):=AA;obtain⟨t,ht⟩:∃t,ts[q]?=some t:=⟨_,Au AA⟩;have hd:=drop_cons ht;rw[hd] at hP hc;simp only[EF,Ac] at hP hc;simp[ha.BA,Aa,h1];refine AGQ ?_;simp;refine BM ha (row:=Aj t) AA (by grind[BJ]) (Al t) AA ?_;have hb:=Qr k q;have e3:=ih t (A3 ht) (u+EE k q) AA l y hy AA;have hrow:=BJ ht;obtain⟨k',n',x,es⟩:=t;simp only[Aj,CO,Co] at e3 hrow;simp[Aj];refine AL (V8 ha q) ?_;rintro v rfl;simp only[DX];refine⟨⟨Ap,Ap⟩,CS AA AA ?_⟩;have ec:(u:Int)+(EE k q:Int)=((u+EE k q:Nat):Int):=AA;rw[ec];refine AL e3 ?_;rintro v ⟨m,hm,hmi,hml⟩;simp[Dg,uT ha,JG,NZ,Mg,FQ,IP,DR];refine⟨BM ha AA Be AD AA (by simp[*,Dg,NZ,Mg,FQ,IP,DR]),AGR ?_⟩;simp only[DX];refine⟨⟨Ap,Ap⟩,CS AA AA ?_⟩;have:=D1 (q+1) m v hm AA AA AB
  grind
mutual
theorem free_spec:∀(t:Ty),size t<2 ^ 39->∀(u:Nat),u+size t<2 ^ 60->∀(x:AV),A7 t x->∀(l:List Int) (y:AV),A2 y (Ab l)->l.length+size t<2 ^ 40 ->
  Af (env R) 126 [x,AG u,y] λr=>∃m,A2 r (Ab m)/\(m=[]<->l=[]/\CP u t=true)/\m.length<=l.length+size t
 | .mk k n i ts,h,u,hu,x,hx,l,y,hy,hl=>by
  obtain⟨a,rfl,ha⟩:=hx;simp only[size] at h hu hl;have ih:=Tu ts AA (u+1) AA
  suffices H:∀Post:AV->Prop,(∀r m,A2 r (Ab m)->(m=[]<->l=[]/\CP u (.mk k n i ts)=true)->m.length<=l.length+size (.mk k n i ts)->Post r)->ua R 0 0 0 (.agg [AG k,SS n,AG i,a]) (AG u) y ⟨[],[]⟩ (QP Post) from
   AXo (u0:=.agg [AG k,SS n,AG i,a]) (u1:=AG u) (u2:=y) (by simp[ha.close,hy.close]) (H _ λr m h1 h2 h3=>⟨m,h1,h2,h3⟩)
  intro Post Gk;refine AGS ?_;simp only[CP,size] at Gk;cases h1:(k==5) with
  | false=>
   rw[h1] at Gk;simp[-beq_iff_eq,ha.ok,h1];refine gj ?_;exact Qt ha AA AA ih ts.length 0 l y hy AB AA (λr m a b c=>Gk r m a AB AB)
  | true=>
   rw[h1] at Gk;cases h2:decide ((u:Int)<=i) with
   | true=>
    rw[h2] at Gk;simp[-beq_iff_eq,-decide_eq_true_eq,ha.ok,h1,h2,gu];refine AL (Tt hy AA _) ?_;rintro v ⟨m,hm,hne,hml⟩;refine gj ?_;refine Qt ha AA AA ih ts.length 0 m v hm AB AA (λr m' a b c=>Gk r m' a ?_ AB)
    grind
   | false=>
    rw[h2] at Gk;simp[-beq_iff_eq,-decide_eq_false_iff_not,ha.ok,h1,h2];refine gj ?_;exact Qt ha AA AA ih ts.length 0 l y hy AB AA (λr m a b c=>Gk r m a AB AB)
theorem Tu:∀(l:List Ty),Ac l<2 ^ 39->∀(w:Nat),w+Ac l<2 ^ 60->∀t∈l,∀v,v<=w->∀(z:List Int) (y:AV),A2 y (Ab z)->z.length+size t<2 ^ 40 ->
   Af (env R) 126 [.agg ((Aj t).map .pv),AG v,y] λr=>∃m,A2 r (Ab m)/\(m=[]<->z=[]/\CP v t=true)/\m.length<=z.length+size t
 | [],_,_,_,_,h=>by cases h
 | e::l,ho,w,hw,a,h=>by
  simp only[Ac] at ho hw;rcases A5.1 h with h' | h'
  .rw[h']
   exact λv hv z y hy hz=>free_spec e AA v AA _ (A7.Bi e) z y hy hz
  .exact Tu l AA w AA a h'
end
theorem Iw {t:Ty} (h:size t<2 ^ 38) {x:AV} (hx:A7 t x):Af (env R) 48 [x] λr=>r=BB (CP 0 t):=by
 obtain⟨k,n,i,ts⟩:=t;obtain⟨a,rfl,ha⟩:=hx;refine e48 (u0:=.agg [AG k,SS n,AG i,a]) (by simp[ha.close]) (AOG ?_);simp[ha.ok]
 have AXp:Af (env R) 96 [.agg [AG k,SS n,AG i,a]] λr=>∃m,A2 r (Ab m)/\(m=[]<->CP 0 (.mk k n i ts)=true):=by
  refine e96 (u0:=.agg [AG k,SS n,AG i,a]) (by simp[ha.close]) (AOH ?_);simp[ha.ok];refine AL (free_spec (.mk k n i ts) AA 0 AA _ ⟨a,rfl,ha⟩ [] (.AE []) (.AE []) AB) ?_;rintro v ⟨m,hm,hmi,_⟩;exact⟨v,hm.close _ _ _,m,hm,AB⟩
 refine AL AXp ?_;rintro v ⟨m,hm,hmi⟩;simp[QP,QI,hm.BA,BF];cases hc:CP 0 (.mk k n i ts) with
 | true=>
  grind
 | false=>
  simp[*]
end
mutual
def plain:Ty->Bool
 | .mk k n i ts=>k==5||CP 0 (.mk k n i ts)||(k==2&&ET ts)
def ET:List Ty->Bool
 | []=>true
 | t::l=>plain t&&ET l
end
section
variable {R:Nat->Option (List PV)}
theorem ud {f:FuncId} {g:Ty->Bool} {ts:List Ty} {y:AV} (hy:A2 y (Ad ts)) (hl:Ac ts<2 ^ 60) (hf:∀t∈ts,Af (env R) f [.agg ((Aj t).map .pv)] λr=>r=BB (g t)) {Post:AV->Prop} :
  ∀(j q:Nat),q+j=ts.length->(∀i:Int,decide (0<=i)=(ts.drop q).any g->Post (AG i))->Y8 R 0 0 0 y (.func (.func f) [] []) (AG ts.length) (AG q) ⟨[],[]⟩ (QP Post):=by
 have Tn:=BV ts;intro j
 induction j with
 | zero=>
  intro q hi hP;refine Qu ?_;have h1:¬ ((q:Int)<ts.length):=AA;simp[h1];refine gv ?_
  simp_all[QP]
 | succ j D1=>
  intro q hi hP;refine Qu ?_;have h1:((q:Int)<ts.length):=AA;obtain⟨t,ht⟩:∃t,ts[q]?=some t:=⟨_,Au AA⟩;have hd:=drop_cons ht;rw[hd] at hP;simp[h1];refine gw ?_;refine BM hy (row:=Aj t) AA (by simp[*,BJ]) (Al t) AA ?_;have e3:=hf t (A3 ht);cases hg:g t with
  | true=>
   rw[hg] at e3;have:=hP q AB;obtain⟨k',n',x,es⟩:=t;simp only[Aj,CO,Co] at e3;simp[Aj];refine AL e3 ?_;simp[*,QP]
  | false=>
   rw[hg] at e3;simp only[O2,hg,GL] at hP;obtain⟨k',n',x,es⟩:=t;simp only[Aj,CO,Co] at e3;simp[Aj];refine AL e3 ?_;rintro v rfl;simp;refine hO ?_;simp only[DX];refine⟨⟨Ap,Ap⟩,CS AA AA ?_⟩;have:=D1 (q+1) AA hP;simpa using this
theorem N7 {f:FuncId} {g:Ty->Bool} {ts:List Ty} {y:AV} (hy:A2 y (Ad ts)) (hl:Ac ts<2 ^ 60) (hf:∀t∈ts,Af (env R) f [.agg ((Aj t).map .pv)] λr=>r=BB (g t)) :
  Af (env R) 94 [y,.func (.func f) [] []] λr=>r=BB (ts.any g):=by
 have hi:Af (env R) 125 [y,.func (.func f) [] []] λr=>∃i:Int,r=AG i/\decide (0<=i)=ts.any g:=by
  refine AXq (by simp[DK,hy.Fx,Fx]) (hY ?_);simp[hy.BA,Aa];exact ud hy hl hf ts.length 0 AA (λi h=>⟨i,rfl,AB⟩)
 refine e94 (by simp[DK,hy.Fx,Fx]) (ue ?_);refine AL hi ?_;rintro v ⟨i,rfl,h⟩;simp only[DX];refine⟨⟨Ap,Ap⟩,_,Hu,?_⟩;rw[<-h]
mutual
theorem Y9:∀(t:Ty),size t<2 ^ 38->∀(x:AV),A7 t x->Af (env R) 161 [x] λr=>r=BB (plain t)
 | .mk k n i ts,h,x,hx=>by
  obtain⟨a,rfl,ha⟩:=hx;have hs:=h;simp only[size] at h;have ih:=Mv k n i ts AA a ha;have hc:Af (env R) 141 [.agg [AG k,SS n,AG i,a],AG 0] λr=>r=BB (CP 0 (.mk k n i ts)):=Mu (.mk k n i ts) AA 0 AA _ ⟨a,rfl,ha⟩
  refine AXr (u0:=.agg [AG k,SS n,AG i,a]) (by simp[ha.close]) (AGT ?_);cases h1:(k==5) with
  | true=>simp[-beq_iff_eq,QP,QI,ha.ok,h1,plain]
  | false=>
   simp[-beq_iff_eq,ha.ok,h1];refine AL hc ?_;rintro v rfl;cases h2:CP 0 (.mk k n i ts) with
   | true=>simp[*,QP,plain]
   | false=>
    cases h3:(k==2) with
    | false=>simp[*,QP,plain]
    | true=>
     have e2:k=2:=AB;subst e2;simp;refine AL ih ?_;simp[*,QP,plain]
theorem Mv (k:Int) (n:List UInt8) (i:Int):∀(ts:List Ty),Ac ts<2 ^ 38->∀(a:AV),A2 a (Ad ts)->Af (env R) 140 [.agg [AG k,SS n,AG i,a]] λr=>r=BB (ET ts)
 | ts,h,a,ha=>by
  have ih:=Rr ts h;refine AXs (u0:=.agg [AG k,SS n,AG i,a]) (by simp[ha.close]) (AGU ?_);simp[ha.ok]
  have hf:∀t∈ts,Af (env R) 160 [.agg ((Aj t).map .pv)] λr=>r=BB (!plain t):=by
   intro t ht;have e:=ih t ht;refine AXt (by cases t; rfl) (AGV ?_);obtain⟨k',n',x,es⟩:=t;simp only[Aj,CO,Co] at e;simp[Aj];refine AL e ?_;simp[*,QP]
  refine AL (N7 ha AA hf) ?_;rintro v rfl
  have:(!ts.any λt=>!plain t)=ET ts:=by
   clear ih hf ha h
   induction ts with
   | nil=>rfl
   | cons t l ih=>grind[ET]
  simp[*,QP]
theorem Rr:∀(l:List Ty),Ac l<2 ^ 38->∀t∈l,Af (env R) 161 [.agg ((Aj t).map .pv)] λr=>r=BB (plain t)
 | [],_,_,h=>by cases h
 | e::l,ho,a,h=>by
  simp only[Ac] at ho;rcases A5.1 h with h' | h'
  .rw[h']
   exact Y9 e AA _ (A7.Bi e)
  .exact Rr l AA a h'
end
theorem bQ {k i:Int} {n:List UInt8} {ts:List Ty} {a:AV} (ha:A2 a (Ad ts)) (hl:Ac ts<2 ^ 38) (ih:∀t∈ts,Af (env R) 110 [.agg ((Aj t).map .pv)] λr=>r=BB (plain t)) {Post:AV->Prop} :
  ∀(j q:Nat),q+j=ts.length->Post (BB (k==2&&ET (ts.drop q)))->uf R 0 0 0 (.ptr 0 0) (AG q) ⟨[[AG k,SS n,AG i,a]],[]⟩ (QP Post):=by
 have Tn:=BV ts;intro j
 induction j with
 | zero=>
  intro q hi hP;refine ug ?_;have h1:¬ ((q:Int)<ts.length):=AA;simp[ha.BA,Aa,h1];refine AGW ?_
  simp_all[QP,ET]
 | succ j D1=>
  intro q hi hP;refine ug ?_;have h1:((q:Int)<ts.length):=AA;obtain⟨t,ht⟩:∃t,ts[q]?=some t:=⟨_,Au AA⟩;have hd:=drop_cons ht;rw[hd] at hP;simp only[ET] at hP;simp[ha.BA,Aa,h1];refine AGX ?_;simp;refine BM ha (row:=Aj t) AA (by simp[*,BJ]) (Al t) AA ?_;have e3:=ih t (A3 ht);have hr:=Al t;cases hg:plain t with
  | true=>
   rw[hg] at e3 hP;obtain⟨k',n',x,es⟩:=t;simp only[Aj,CO,Co] at e3;simp[Aj];refine AL e3 ?_;rintro v rfl;simp;refine AGY ?_;simp only[DX];refine⟨⟨Ap,Ap⟩,CS AA AA ?_⟩;have:=D1 (q+1) AA (by simpa using hP);simpa using this
  | false=>
   rw[hg] at e3 hP;obtain⟨k',n',x,es⟩:=t;simp only[Aj,CO,Co] at e3;simp[Aj];refine AL e3 ?_
   simp_all[QP]
mutual
theorem bR:∀(t:Ty),size t<2 ^ 38->∀(x:AV),A7 t x->Af (env R) 110 [x] λr=>r=BB (plain t)
 | .mk k n i ts,h,x,hx=>by
  obtain⟨a,rfl,ha⟩:=hx;have hs:=h;simp only[size] at h;have ih:=Lu ts AA;have hc:Af (env R) 48 [.agg [AG k,SS n,AG i,a]] λr=>r=BB (CP 0 (.mk k n i ts)):=Iw hs ⟨a,rfl,ha⟩
  suffices H:∀Post:AV->Prop,Post (BB (plain (.mk k n i ts)))->uh R 0 0 0 (.agg [AG k,SS n,AG i,a]) ⟨[],[]⟩ (QP Post) from
   AXu (u0:=.agg [AG k,SS n,AG i,a]) (by simp[ha.close]) (H _ rfl)
  intro Post Gk;refine AGZ ?_;simp only[plain] at Gk;cases h1:(k==5) with
  | true=>
   rw[h1] at Gk;simpa[-beq_iff_eq,QP,QI,ha.ok,h1] using Gk
  | false=>
   rw[h1] at Gk;simp[-beq_iff_eq,ha.ok,h1];refine AL hc ?_;rintro v rfl;cases h2:CP 0 (.mk k n i ts) with
   | true=>
    simp_all[QP]
   | false=>
    rw[h2] at Gk;simp[-beq_iff_eq];refine AGa ?_;exact bQ ha AA ih ts.length 0 AA AB
theorem Lu:∀(l:List Ty),Ac l<2 ^ 38->∀t∈l,Af (env R) 110 [.agg ((Aj t).map .pv)] λr=>r=BB (plain t)
 | [],_,_,h=>by cases h
 | e::l,ho,a,h=>by
  simp only[Ac] at ho;rcases A5.1 h with h' | h'
  .rw[h']
   exact bR e AA _ (A7.Bi e)
  .exact Lu l AA a h'
end
end
def isLet (n:Int):Bool:=(decide (97<=n)&&decide (n<=122))||(decide (65<=n)&&decide (n<=90))
def Tv (n:Int):Bool:=decide (48<=n)&&decide (n<=57)
def Qv (n:Int):Bool:=isLet n||Tv n||n==95||n==45
abbrev BY (n:Int):AV:=.pv (.sc (.int .u8 n))
def Mw (l:List UInt8):Bool:=l != []&&decide (l.length<=24)&&(match l with|[]=>false|c::_=>isLet c.toNat)&&l.all λc=>!((c.toNat:Int)==45)&&Qv c.toNat
def MV:List (List UInt8):=[[65,110,121],[78,101,118,101,114],[116,117,112,108,101],[117,110,105,111,110],[101,120,105,115,116,115]]
section
variable {R:Nat->Option (List PV)}
theorem Rs (n:Int):Af (env R) 155 [BY n] λr=>r=BB (isLet n):=by
 refine AXv rfl (AGb ?_)
 by_cases h1:97<=n <;> by_cases h2:n<=122 <;> by_cases h3:65<=n <;> by_cases h4:n<=90 <;> simp[QP,QI,isLet,h1,h2,h3,h4]
theorem PZ (n:Int):Af (env R) 135 [BY n] λr=>r=BB (isLet n):=by
 refine AXw rfl (AGc ?_)
 by_cases h1:97<=n <;> by_cases h2:n<=122 <;> by_cases h3:65<=n <;> by_cases h4:n<=90 <;> simp[QP,QI,isLet,h1,h2,h3,h4]
theorem iA (n:Int):Af (env R) 173 [BY n] λr=>r=BB (Tv n):=by
 refine AXx rfl (AGd ?_)
 by_cases h1:48<=n <;> by_cases h2:n<=57 <;> simp[QP,QI,Tv,h1,h2]
theorem bS (n:Int):Af (env R) 154 [BY n] λr=>r=BB (Tv n):=by
 refine AXy rfl (AGe ?_)
 by_cases h1:48<=n <;> by_cases h2:n<=57 <;> simp[QP,QI,Tv,h1,h2]
theorem V9 (n:Int):Af (env R) 158 [BY n] λr=>r=BB (Qv n):=by
 refine AXz rfl (AGf ?_);refine AL (Rs n) ?_;rintro v rfl;cases h1:isLet n with
 | true=>simp[QP,QI,Qv,h1]
 | false=>
  simp;refine AL (iA n) ?_;rintro v rfl;cases h2:Tv n with
  | true=>simp[QP,QI,Qv,h2]
  | false=>cases h3:(n==95) <;> cases h4:(n==45) <;> simp[-beq_iff_eq,-beq_eq_false_iff_ne,QP,QI,Qv,h1,h2,h3,h4]
theorem Tw (n:Int):Af (env R) 136 [BY n] λr=>r=BB (Qv n):=by
 refine AX0 rfl (AGg ?_);refine AL (PZ n) ?_;rintro v rfl;cases h1:isLet n with
 | true=>simp[QP,QI,Qv,h1]
 | false=>
  simp;refine AL (bS n) ?_;rintro v rfl;cases h2:Tv n with
  | true=>simp[QP,QI,Qv,h2]
  | false=>cases h3:(n==95) <;> cases h4:(n==45) <;> simp[-beq_iff_eq,-beq_eq_false_iff_ne,QP,QI,Qv,h1,h2,h3,h4]
theorem Tx (n:Int):Af (env R) 157 [BY n] λr=>r=BB (!(n==45)&&Qv n):=by
 refine AX1 rfl (AGh ?_);cases h:(n==45) with
 | true=>simp[-beq_iff_eq,-beq_eq_false_iff_ne,QP,QI,h,bne]
 | false=>
  simp[-beq_iff_eq,-beq_eq_false_iff_ne,h,bne];refine AL (V9 n) ?_;rintro v rfl;simp[-beq_iff_eq,-beq_eq_false_iff_ne,QP,QI]
theorem iB {f:FuncId} {g:Int->Bool} {l:List UInt8} (hl:l.length<2 ^ 60) (hf:∀n:Int,Af (env R) f [BY n] λr=>r=BB (g n)) {Post:AV->Prop} :
  ∀(j q:Nat),q+j=l.length->Post (BB ((l.drop q).all λc=>g c.toNat))->uj R 0 0 0 (SS l) (.func (.func f) [] []) (AG q) ⟨[],[]⟩ (QP Post):=by
 intro j
 induction j with
 | zero=>
  intro q hi hP;refine uk ?_;have h1:¬ ((q:Int)<l.length):=AA;simp[h1];refine AGi ?_;have h2:l.drop q=[]:=CH AA;rw[h2] at hP;simpa[QP,QI] using hP
 | succ j D1=>
  intro q hi hP;refine uk ?_;have h1:((q:Int)<l.length):=AA;obtain⟨c,hc⟩:∃c,l[q]?=some c:=⟨_,Au AA⟩;rw[drop_cons hc] at hP;simp[h1];refine AGj ?_;refine⟨AA,c,by simpa using hc,?_⟩;refine AL (hf c.toNat) ?_;rintro v rfl;cases hg:g c.toNat with
  | true=>
   rw[HP,hg] at hP;simp;refine AGk ?_;simp only[DX];refine⟨⟨Ap,Ap⟩,CS AA AA ?_⟩;have:=D1 (q+1) AA (by simpa using hP);simpa using this
  | false=>
   rw[HP,hg] at hP;simpa[QP,QI] using hP
theorem ZA {l:List UInt8} (hl:l.length<2 ^ 60):Af (env R) 138 [SS l] λr=>r=BB (Mw l):=by
 have ev:Af (env R) 156 [SS l,.func (.func 157) [] []] λr=>r=BB (l.all λc=>!((c.toNat:Int)==45)&&Qv c.toNat):=by
  refine AX2 (u0:=SS l) (u1:=.func (.func 157) [] []) AD (AGl ?_);exact iB hl Tx l.length 0 AA AD
 refine AX3 (u0:=SS l) AD (AGm ?_);cases l with
 | nil=>simp[QP,QI,Mw]
 | cons c l=>
  by_cases h1:(c::l).length<=24
  .have aM:(((c::l).length:Nat):Int)<=24:=by omega
   have iC:((l.length:Int)+1<=24):=by simpa using aM
   simp[iC,Wx];refine AL (Rs c.toNat) ?_;rintro v rfl;cases h2:isLet c.toNat with
   | false=>simp[QP,QI,Mw,h2]
   | true=>
    simp;refine AL ev ?_;rintro v rfl;have:l.length+1<=24:=by simpa using h1
    simp[QP,QI,Mw,h2,this]
  .have iC:¬ ((l.length:Int)+1<=24):=by simp at h1; omega
   have:¬ (l.length+1<=24):=by simpa using h1
   simp[QP,QI,iC,Mw,this]
theorem bT {l:List UInt8} (hl:l.length<2 ^ 60) {Post:AV->Prop} :
  ∀(j q:Nat),q+j=l.length->Post (BB ((l.drop q).all λc=>!((c.toNat:Int)==45)&&Qv c.toNat))->um R 0 0 0 (SS l) (AG q) ⟨[],[]⟩ (QP Post):=by
 intro j
 induction j with
 | zero=>
  intro q hi hP;refine uo ?_;have h1:¬ ((q:Int)<l.length):=AA;simp[h1];refine AGn ?_;have h2:l.drop q=[]:=CH AA;rw[h2] at hP;simpa[QP,QI] using hP
 | succ j D1=>
  intro q hi hP;refine uo ?_;have h1:((q:Int)<l.length):=AA;obtain⟨c,hc⟩:∃c,l[q]?=some c:=⟨_,Au AA⟩;rw[drop_cons hc] at hP;simp[h1];refine AGo ?_;refine⟨AA,c,by simpa using hc,?_⟩;refine AL (Tw c.toNat) ?_;rintro v rfl;cases hg:Qv c.toNat with
  | false=>
   rw[HP,hg,Bool.and_false,Gt] at hP;simpa[QP,QI] using hP
  | true=>
   rw[HP,hg,JA] at hP;simp;refine⟨AA,c,by simpa using hc,?_⟩
   by_cases h45:((c.toNat:Int)=45)
   .have AGp:((c.toNat:Int)==45)=true:=by simpa using h45
    rw[AGp,NP,Gt] at hP;simp[QP,QI];exact⟨λ_=>hP,λh=>absurd h45 h⟩
   .have AGp:((c.toNat:Int)==45)=false:=by simpa using h45
    rw[AGp,O1,CZ] at hP;simp;refine⟨λh=>absurd h h45,λ_=>AGq ?_⟩;simp only[DX];refine⟨⟨Ap,Ap⟩,CS AA AA ?_⟩;have:=D1 (q+1) AA (by simpa using hP);simpa using this
theorem bU {l:List UInt8} (hl:l.length<2 ^ 60):Af (env R) 108 [SS l] λr=>r=BB (Mw l):=by
 refine AX4 (u0:=SS l) AD (AGr ?_);cases l with
 | nil=>simp[QP,QI,Mw]
 | cons c l=>
  have h0:¬ ((l.length:Int)+1<1):=AA
  by_cases h1:l.length+1<=24
  .have iC:¬ (24<(l.length:Int)+1):=by omega
   simp[h0,iC,Wx];refine AL (PZ c.toNat) ?_;rintro v rfl;cases h2:isLet c.toNat with
   | false=>simp[QP,QI,Mw,h2]
   | true=>
    simp;refine AGs ?_;refine bT hl (c::l).length 0 AA ?_;simp[Mw,h2,h1]
  .have iC:(24<(l.length:Int)+1):=by omega
   simp[QP,QI,h0,iC,Mw,h1]
theorem ZB {l:List UInt8}:Af (env R) 109 [SS l] λr=>r=BB (MV.contains l):=by
 refine AX5 (u0:=SS l) AD (AGt ?_)
 by_cases h1:l=[65,110,121]
 .subst h1; simp[QP,QI,MV]
 by_cases h2:l=[78,101,118,101,114]
 .subst h2; simp[QP,QI,MV]
 by_cases h3:l=[116,117,112,108,101]
 .subst h3; simp[QP,QI,MV]
 by_cases h4:l=[117,110,105,111,110]
 .subst h4; simp[QP,QI,MV]
 by_cases h5:l=[101,120,105,115,116,115]
 .subst h5; simp[QP,QI,MV]
 have b1:(l==[65,110,121])=false:=by simpa using h1
 have b2:(l==[78,101,118,101,114])=false:=by simpa using h2
 have b3:(l==[116,117,112,108,101])=false:=by simpa using h3
 have b4:(l==[117,110,105,111,110])=false:=by simpa using h4
 have b5:(l==[101,120,105,115,116,115])=false:=by simpa using h5
 have b:MV.contains l=false:=by simp[MV,h1,h2,h3,h4,h5]
 simp[-beq_iff_eq,-beq_eq_false_iff_ne,-List.contains_eq_mem,QP,QI,b,b1,b2,b3,b4,b5]
def Ew (l:List (List UInt8)):List (List PV):=l.map λs=>[.sc (.string ⟨s.toArray⟩)]
theorem bV (l:List (List UInt8)):(Ew l).length=l.length:=by simp[Ew]
theorem bW {l:List (List UInt8)} {i:Nat} {n:List UInt8} (h:l[i]?=some n):(Ew l)[i]?=some [.sc (.string ⟨n.toArray⟩)]:=by simp[Ew,h]
theorem iD {l:List (List UInt8)} {w:List UInt8} {y:AV} (hy:A2 y (Ew l)) (hl:l.length<2 ^ 60) {Post:AV->Prop} :
  ∀(j q:Nat),q+j=l.length->(∀i:Int,decide (0<=i)=(l.drop q).contains w->Post (AG i))->uq R 0 0 0 y (SS w) (AG l.length) (AG q) ⟨[],[]⟩ (QP Post):=by
 intro j
 induction j with
 | zero=>
  intro q hi hP;refine ur ?_;have h1:¬ ((q:Int)<l.length):=AA;simp[h1];refine AGu ?_;have h2:l.drop q=[]:=CH AA;rw[h2] at hP;have:=hP (-1) AD;simpa[QP,QI] using this
 | succ j D1=>
  intro q hi hP;refine ur ?_;have h1:((q:Int)<l.length):=AA;obtain⟨t,ht⟩:∃t,l[q]?=some t:=⟨_,Au AA⟩;rw[drop_cons ht] at hP;simp[h1];refine AGv ?_;refine BM hy (row:=[.sc (.string ⟨t.toArray⟩)]) AA (by simpa using bW ht) rfl AA ?_
  by_cases hw:w=t
  .subst hw
   have:=hP q AD;simpa[QP,QI] using this
  .simp[hw]
   refine AGw ?_;simp only[DX];refine⟨⟨Ap,Ap⟩,CS AA AA ?_⟩;have:=D1 (q+1) AA (λi h=>hP i (by rw[h]; simp[hw]));simpa using this
theorem Tz {l:List (List UInt8)} {w:List UInt8} {y:AV} (hy:A2 y (Ew l)) (hl:l.length<2 ^ 60):Af (env R) 139 [y,SS w] λr=>r=BB (l.contains w):=by
 have hi:Af (env R) 159 [y,SS w] λr=>∃i:Int,r=AG i/\decide (0<=i)=l.contains w:=by
  refine AX6 (u0:=y) (u1:=SS w) (by simp[hy.close]) (AGx ?_);simp[hy.BA,bV];exact iD hy hl l.length 0 AA (λi h=>⟨i,rfl,by simpa using h⟩)
 refine AX7 (u0:=y) (u1:=SS w) (by simp[hy.close]) (AGy ?_);refine AL hi ?_;rintro v ⟨i,rfl,h⟩;simp only[DX];refine⟨⟨Ap,Ap⟩,_,Hu,?_⟩;rw[<-h]
end
def T3:List Ty->Bool
 | []=>false
 | t::_=>CP 0 t
def shape (k:Int) (n:List UInt8) (i:Int) (ts:List Ty):Bool:=
 bif k==0||k==1 then ts.length==0
 else bif k==2 then Mw n&&!MV.contains n&&decide (ts.length<=6)&&ET ts
 else bif k==3 then decide (ts.length<=6)
 else bif k==4 then decide (2<=ts.length)
 else bif k==5 then ts.length==0&&decide (0<=i)&&decide (i<=200)
 else bif k==6 then ts.length==2&&T3 ts
 else false
def root (k:Int) (n:List UInt8) (i:Int) (ts:List Ty):Bool:=(k==2||n==[])&&(k==5||i==0)&&shape k n i ts
mutual
def valid:Ty->Bool
 | .mk k n i ts=>root k n i ts&&BC ts
def BC:List Ty->Bool
 | []=>true
 | t::l=>valid t&&BC l
end
def V7 (n:List UInt8):Prop:=n.length<2 ^ 60
mutual
def ZC:Ty->Prop
 | .mk _ n _ ts=>V7 n/\SI ts
def SI:List Ty->Prop
 | []=>True
 | t::l=>ZC t/\SI l
end
section
variable {R:Nat->Option (List PV)}
theorem AGz:(env R).G 2=some (Ez MV):=rfl
theorem qC:Ez MV=[.list (Ew MV)]:=rfl
section
variable {k i:Int} {n:List UInt8} {ts:List Ty} {a:AV} {Post:AV->Prop}
theorem sh0 (ha:A2 a (Ad ts)) (hP:Post (BB (ts.length==0))):Mx R 0 0 0 (.ptr 0 0) (AG k) (BB true) ⟨[[AG k,SS n,AG i,a]],[]⟩ (QP Post):=by
 refine OS ⟨λ_=>?_,AD⟩;have e:((ts.length:Int)==0)=(ts.length==0):=AB;simpa[-beq_iff_eq,-beq_eq_false_iff_ne,QP,QI,ha.BA,Aa,e] using hP
theorem sh2 (ha:A2 a (Ad ts)) (hs:Ac ts<2 ^ 38) (hn:V7 n) (hP:Post (BB (Mw n&&!MV.contains n&&decide (ts.length<=6)&&ET ts))) :
  Mx R 0 0 0 (.ptr 0 0) (AG 2) (BB false) ⟨[[AG 2,SS n,AG i,a]],[]⟩ (QP Post):=by
 have hlen:=BV ts;refine OS ⟨AD,λ_=>⟨⟨rfl,rfl⟩,⟨λ_=>?_,AD⟩⟩⟩;simp only[Ia,Mt,Js,KW,ER,Fh,Eo,wO,setCells,IM,D5,DF,Ce,E2,alive,DX,KF,Tl,gY,HW,JM,HI,Ib,Lr,JN,oY,kj,okB,oZ,oa,oc,od,og,fP,oh,oo,oq,ot,ou,ow,oz,o5,o6,o7,o8,okF,o9,pE,pF,pG,pH,V7,pI,Qm,Qn,Qo,Qp,pJ,pK,pL,pM,pN,pO,pP,pQ,pR,pS,Hu,pT,kn,pU,pV,pW,pX,pY,pZ,pg,pn,pq,pz,Cp];simp only[JB,IJ,Bt,CQ,Gs];refine⟨Ap,AL (ZA hn) ?_⟩;rintro v rfl;cases c1:Mw n with
 | false=>
  rw[c1] at hP;simpa[QP,QI] using hP
 | true=>
  simp[AGz,qC];refine AL (Tz (.list _) (by simp[MV])) ?_;rintro v rfl;cases c2:MV.contains n with
  | true=>
   simp_all[QP]
  | false=>
   rw[c1,c2] at hP
   by_cases c3:ts.length<=6
   .have c3':((ts.length:Int)<=6):=by omega
    rw[Ar c3] at hP;simp[ha.BA,Aa,c3'];refine AL (Mv 2 n i ts hs a ha) ?_
    simp_all[QP]
   .have c3':¬ ((ts.length:Int)<=6):=by omega
    rw[Az c3] at hP;simpa[QP,QI,ha.BA,Aa,c3'] using hP
theorem sh3 (ha:A2 a (Ad ts)) (hP:Post (BB (decide (ts.length<=6)))):Mx R 0 0 0 (.ptr 0 0) (AG 3) (BB false) ⟨[[AG 3,SS n,AG i,a]],[]⟩ (QP Post):=by
 refine OS ⟨AD,λ_=>⟨⟨rfl,rfl⟩,⟨AD,λ_=>⟨⟨rfl,rfl⟩,⟨λ_=>?_,AD⟩⟩⟩⟩⟩;have e:decide ((ts.length:Int)<=6)=decide (ts.length<=6):=AB;simpa[-decide_eq_true_eq,QP,QI,ha.BA,Aa,e] using hP
theorem sh4 (ha:A2 a (Ad ts)) (hP:Post (BB (decide (2<=ts.length)))):Mx R 0 0 0 (.ptr 0 0) (AG 4) (BB false) ⟨[[AG 4,SS n,AG i,a]],[]⟩ (QP Post):=by
 refine OS ⟨AD,λ_=>⟨⟨rfl,rfl⟩,⟨AD,λ_=>⟨⟨rfl,rfl⟩,⟨AD,λ_=>⟨⟨rfl,rfl⟩,⟨λ_=>?_,AD⟩⟩⟩⟩⟩⟩⟩;have e:decide (2<=(ts.length:Int))=decide (2<=ts.length):=AB;simpa[-decide_eq_true_eq,QP,QI,ha.BA,Aa,e] using hP
theorem sh5 (ha:A2 a (Ad ts)) (hP:Post (BB (ts.length==0&&decide (0<=i)&&decide (i<=200)))):Mx R 0 0 0 (.ptr 0 0) (AG 5) (BB false) ⟨[[AG 5,SS n,AG i,a]],[]⟩ (QP Post):=by
 refine OS ⟨AD,λ_=>⟨⟨rfl,rfl⟩,⟨AD,λ_=>⟨⟨rfl,rfl⟩,⟨AD,λ_=>⟨⟨rfl,rfl⟩,⟨AD,λ_=>⟨⟨rfl,rfl⟩,⟨λ_=>?_,AD⟩⟩⟩⟩⟩⟩⟩⟩⟩;cases ts with
 | cons t l=>
  have c':¬ ((l.length:Int)+1=0):=AA;have b':((l.length:Int)+1==0)=false:=AR;simpa[-beq_iff_eq,-beq_eq_false_iff_ne,QP,QI,ha.BA,Aa,b'] using hP
 | nil=>
  by_cases c1:0<=i
  .by_cases c2:i<=200
   .simpa[QP,QI,ha.BA,Aa,c1,c2] using hP
   .simpa[QP,QI,ha.BA,Aa,c1,c2] using hP
  .simpa[QP,QI,ha.BA,Aa,c1] using hP
theorem sh6 (ha:A2 a (Ad ts)) (hs:Ac ts<2 ^ 38) (hP:Post (BB (ts.length==2&&T3 ts))):Mx R 0 0 0 (.ptr 0 0) (AG 6) (BB false) ⟨[[AG 6,SS n,AG i,a]],[]⟩ (QP Post):=by
 refine OS ⟨AD,λ_=>⟨⟨rfl,rfl⟩,⟨AD,λ_=>⟨⟨rfl,rfl⟩,⟨AD,λ_=>⟨⟨rfl,rfl⟩,⟨AD,λ_=>⟨⟨rfl,rfl⟩,⟨AD,λ_=>⟨⟨rfl,rfl⟩,⟨λ_=>?_,AD⟩⟩⟩⟩⟩⟩⟩⟩⟩⟩⟩
 by_cases c:ts.length=2
 .have c':((ts.length:Int)=2):=by omega
  obtain⟨t,l,rfl⟩:∃t l,ts=t::l:=by
   cases ts with
   | nil=>grind
   | cons t l=>simp
  simp only[Ac] at hs;have e3:Af (env R) 141 [.agg ((Aj t).map .pv),AG 0] λr=>r=BB (CP 0 t):=Mu t AA 0 AA _ (A7.Bi t)
  have hP':Post (BB (CP 0 t)):=by grind[T3]
  have c'':((l.length:Int)+1=2):=AB;simp[ha.BA,Aa,c''];refine BM ha (row:=Aj t) AA AR (Al t) AA ?_;obtain⟨k',n',x,es⟩:=t;simp only[Aj,CO,Co] at e3;simp[Aj];refine AL e3 ?_;simp[*,QP]
 .have c':¬ ((ts.length:Int)=2):=by omega
  have b:(ts.length==2)=false:=AB;rw[b] at hP;have b':((ts.length:Int)==2)=false:=AB;simpa[-beq_iff_eq,-beq_eq_false_iff_ne,QP,QI,ha.BA,Aa,b'] using hP
theorem sh7 (h2:¬ k=2) (h3:¬ k=3) (h4:¬ k=4) (h5:¬ k=5) (h6:¬ k=6) (hP:Post (BB false)):Mx R 0 0 0 (.ptr 0 0) (AG k) (BB false) ⟨[[AG k,SS n,AG i,a]],[]⟩ (QP Post):=by
 refine OS ⟨AD,λ_=>⟨⟨rfl,rfl⟩,⟨AB,λ_=>⟨⟨rfl,rfl⟩,⟨AB,λ_=>⟨⟨rfl,rfl⟩,⟨AB,λ_=>⟨⟨rfl,rfl⟩,⟨AB,λ_=>⟨⟨rfl,rfl⟩,⟨AB,λ_=>AG0 ?_⟩⟩⟩⟩⟩⟩⟩⟩⟩⟩⟩;exact⟨_,Hu,hP⟩
theorem Lv (ha:A2 a (Ad ts)) (hs:Ac ts<2 ^ 38) (hn:V7 n) (hP:Post (BB (shape k n i ts))):uu R 0 0 0 (.ptr 0 0) ⟨[[AG k,SS n,AG i,a]],[]⟩ (QP Post):=by
 refine AG1 ?_
 by_cases h0:k=0
 .subst h0
  simp
  grind[sh0,shape]
 by_cases h1:k=1
 .subst h1
  simp
  grind[sh0,shape]
 have b0:(k==0)=false:=AB;have b1:(k==1)=false:=AB;simp[h0]
 grind[sh2,shape,sh3,sh4,sh5,sh6,sh7]
end
theorem T4 {k i:Int} {n:List UInt8} {ts:List Ty} {a:AV} (ha:A2 a (Ad ts)) (hs:Ac ts<2 ^ 38) (hn:V7 n):Af (env R) 116 [.agg [AG k,SS n,AG i,a]] λr=>r=BB (root k n i ts):=by
 suffices H:∀Post:AV->Prop,Post (BB (root k n i ts))->uv R 0 0 0 (.agg [AG k,SS n,AG i,a]) ⟨[],[]⟩ (QP Post) from
  AX8 (u0:=.agg [AG k,SS n,AG i,a]) (by simp[ha.close]) (H _ rfl)
 intro Post hP;refine AG2 ?_;unfold root at hP;cases b2:(k==2) with
 | true=>
  have e2:k=2:=AB;subst e2
  by_cases hi:i=0
  .subst hi
   simp[ha.ok]
   grind[Lv]
  .have bi:(i==0)=false:=by grind
   rw[bi] at hP;simpa[QP,QI,ha.ok,hi,bne,bi] using hP
 | false=>
  have e2:¬ k=2:=AB;rw[b2] at hP
  by_cases hn0:n=[]
  .subst hn0
   cases b5:(k==5) with
   | true=>
    have e5:k=5:=AB;subst e5;simp[ha.ok]
    grind[Lv]
   | false=>
    have e5:¬ k=5:=AB;rw[b5] at hP
    by_cases hi:i=0
    .subst hi
     simp[ha.ok,e2,e5,bne,b2,b5]
     grind[Lv]
    .have bi:(i==0)=false:=by grind
     rw[bi] at hP;simpa[QP,QI,ha.ok,e2,e5,hi,bne,b2,b5,bi] using hP
  .have bn:(n==[])=false:=by grind
   rw[bn] at hP;simpa[QP,QI,ha.ok,e2,hn0,bne,b2,bn] using hP
end
def verdict (t:Ty):Int:=bif decide (200<size t)||decide (12<depth t) then 4 else bif valid t then 0 else 2
section
variable {R:Nat->Option (List PV)}
mutual
theorem MP:∀(t:Ty),size t<2 ^ 38->ZC t->∀(x:AV),A7 t x->Af (env R) 86 [x] λr=>r=BB (valid t)
 | .mk k n i ts,h,ho,x,hx=>by
  obtain⟨a,rfl,ha⟩:=hx;simp only[size] at h;simp only[ZC] at ho;have ih:=LA ts AA ho.2;refine e86 (u0:=.agg [AG k,SS n,AG i,a]) (by simp[ha.close]) (AOJ ?_);simp[ha.ok];refine AL (T4 ha AA ho.1) ?_;rintro v rfl;cases hr:root k n i ts with
  | false=>simp[*,QP,valid]
  | true=>
   have hf:∀t∈ts,Af (env R) 117 [.agg ((Aj t).map .pv)] λr=>r=BB (!valid t):=by
    intro t ht;have e:=ih t ht;refine AX9 (by cases t; rfl) (AG3 ?_);obtain⟨k',n',x,es⟩:=t;simp only[Aj,CO,Co] at e;simp[Aj];refine AL e ?_;simp[*,QP]
   simp;refine AL (N7 ha AA hf) ?_;rintro v rfl
   have:(!ts.any λt=>!valid t)=BC ts:=by
    clear ih hf ha h hr ho
    induction ts with
    | nil=>rfl
    | cons t l ih=>grind[BC]
   simp[*,QP,valid]
theorem LA:∀(l:List Ty),Ac l<2 ^ 38->SI l->∀t∈l,Af (env R) 86 [.agg ((Aj t).map .pv)] λr=>r=BB (valid t)
 | [],_,_,_,h=>by cases h
 | e::l,ho,hk,a,h=>by
  simp only[Ac] at ho;simp only[SI] at hk;rcases A5.1 h with h' | h'
  .rw[h']
   exact MP e AA hk.1 _ (A7.Bi e)
  .exact LA l AA hk.2 a h'
end
section
variable {k i:Int} {n:List UInt8} {ts:List Ty} {a:AV} {Post:AV->Prop}
theorem AAs (ha:A2 a (Ad ts)) (hl:Ac ts<2 ^ 38) (ih:∀t∈ts,Af (env R) 73 [.agg ((Aj t).map .pv)] λr=>r=BB (valid t)) :
  ∀(j q:Nat),q+j=ts.length->Post (BB (BC (ts.drop q)))->ACw R 0 0 0 (.ptr 0 0) (AG ts.length) (AG q) ⟨[[AG k,SS n,AG i,a]],[]⟩ (QP Post):=by
 have Tn:=BV ts;intro j
 induction j with
 | zero=>
  intro q hi hP;refine ACx ?_;have h1:¬ ((q:Int)<ts.length):=AA;simp[h1];refine AOK ?_
  simp_all[QP,BC]
 | succ j D1=>
  intro q hi hP;refine ACx ?_;have h1:((q:Int)<ts.length):=AA;obtain⟨t,ht⟩:∃t,ts[q]?=some t:=⟨_,Au AA⟩;have hd:=drop_cons ht;rw[hd] at hP;simp only[BC] at hP;simp[h1];refine AOL ?_;simp;refine BM ha (row:=Aj t) AA (by simp[*,BJ]) (Al t) AA ?_;have e3:=ih t (A3 ht);cases hg:valid t with
  | true=>
   rw[hg] at e3 hP;obtain⟨k',n',x,es⟩:=t;simp only[Aj,CO,Co] at e3;simp[Aj];refine AL e3 ?_;rintro v rfl;simp;refine AG4 ?_;simp only[DX];refine⟨⟨Ap,Ap⟩,CS AA AA ?_⟩;have:=D1 (q+1) AA (by simpa using hP);simpa using this
  | false=>
   rw[hg] at e3 hP;obtain⟨k',n',x,es⟩:=t;simp only[Aj,CO,Co] at e3;simp[Aj];refine AL e3 ?_
   simp_all[QP]
theorem S2 (ha:A2 a (Ad ts)) (hl:Ac ts<2 ^ 38) (ih:∀t∈ts,Af (env R) 73 [.agg ((Aj t).map .pv)] λr=>r=BB (valid t)) (hP:Post (BB (BC ts))) :
  ACy R 0 0 0 (.ptr 0 0) (AG ts.length) ⟨[[AG k,SS n,AG i,a]],[]⟩ (QP Post):=
 AOM (AAs ha hl ih ts.length 0 AA AB)
theorem uw (ha:A2 a (Ad ts)) (hl:Ac ts<2 ^ 38) (ih:∀t∈ts,Af (env R) 73 [.agg ((Aj t).map .pv)] λr=>r=BB (valid t)) :
  ∀(j q:Nat),q+j=ts.length->Post (BB (ET (ts.drop q)&&BC ts))->ACz R 0 0 0 (.ptr 0 0) (AG ts.length) (AG q) ⟨[[AG k,SS n,AG i,a]],[]⟩ (QP Post):=by
 have Tn:=BV ts;intro j
 induction j with
 | zero=>
  intro q hi hP;refine AC0 ?_
  simp_all[S2,ET]
 | succ j D1=>
  intro q hi hP;refine AC0 ?_;have h1:((q:Int)<ts.length):=AA;obtain⟨t,ht⟩:∃t,ts[q]?=some t:=⟨_,Au AA⟩;have hd:=drop_cons ht;rw[hd] at hP;simp only[ET] at hP;simp[h1];refine AON ?_;simp;refine BM ha (row:=Aj t) AA (by simp[*,BJ]) (Al t) AA ?_;have e3:=Lu (R:=R) ts hl t (A3 ht);cases hg:plain t with
  | true=>
   rw[hg] at e3 hP;obtain⟨k',n',x,es⟩:=t;simp only[Aj,CO,Co] at e3;simp[Aj];refine AL e3 ?_;rintro v rfl;simp;refine AG5 ?_;simp only[DX];refine⟨⟨Ap,Ap⟩,CS AA AA ?_⟩;have:=D1 (q+1) AA (by simpa using hP);simpa using this
  | false=>
   rw[hg] at e3 hP;obtain⟨k',n',x,es⟩:=t;simp only[Aj,CO,Co] at e3;simp[Aj];refine AL e3 ?_
   simp_all[QP]
theorem wf0 (hP:Post (BB (ts.length==0&&BC ts))):Rt R 0 0 0 (.ptr 0 0) (AG ts.length) (AG k) (BB true) ⟨[[AG k,SS n,AG i,a]],[]⟩ (QP Post):=by
 refine T5 ⟨λ_=>?_,AD⟩;cases ts with
 | nil=>simp_all[QP,BC]
 | cons t l=>
  have b:((l.length:Int)+1==0)=false:=AR;simpa[-beq_iff_eq,-beq_eq_false_iff_ne,QP,QI,b] using hP
theorem wf5 (hP:Post (BB (ts.length==0&&decide (0<=i)&&decide (i<=200)&&BC ts))):Rt R 0 0 0 (.ptr 0 0) (AG ts.length) (AG 5) (BB false) ⟨[[AG 5,SS n,AG i,a]],[]⟩ (QP Post):=by
 refine T5 ⟨AD,λ_=>⟨⟨rfl,rfl⟩,⟨λ_=>?_,AD⟩⟩⟩;cases ts with
 | cons t l=>
  have b:((l.length:Int)+1==0)=false:=AR;simpa[-beq_iff_eq,-beq_eq_false_iff_ne,QP,QI,b] using hP
 | nil=>
  by_cases c1:0<=i
  .by_cases c2:i<=200
   .simp_all[QP,BC]
   .simpa[QP,QI,c1,c2,BC] using hP
  .simpa[QP,QI,c1,BC] using hP
theorem wf2 (ha:A2 a (Ad ts)) (hl:Ac ts<2 ^ 38) (hn:V7 n) (ih:∀t∈ts,Af (env R) 73 [.agg ((Aj t).map .pv)] λr=>r=BB (valid t))
  (hP:Post (BB (Mw n&&!MV.contains n&&decide (ts.length<=6)&&ET ts&&BC ts))):Rt R 0 0 0 (.ptr 0 0) (AG ts.length) (AG 2) (BB false) ⟨[[AG 2,SS n,AG i,a]],[]⟩ (QP Post):=by
 refine T5 ⟨AD,λ_=>⟨⟨rfl,rfl⟩,⟨AD,λ_=>⟨⟨rfl,rfl⟩,⟨λ_=>?_,AD⟩⟩⟩⟩⟩;simp only[Ia,Mt,Js,KW,ER,Fh,Eo,wO,setCells,IM,D5,DF,Ce,E2,alive,DX,KF,Tl,gY,HW,JM,HI,Ib,Lr,JN,oY,kj,okB,oZ,oa,oc,od,og,fP,oh,oo,oq,ot,ou,ow,oz,o5,o6,o7,o8,okF,o9,pE,pF,pG,pH,V7,pI,Qm,Qn,Qo,Qp,pJ,pK,pL,pM,pN,pO,pP,pQ,pR,pS,Hu,pT,kn,pU,pV,pW,pX,pY,pZ,pg,pn,pq,pz,Cp];simp only[JB,IJ,Bt,CQ,Gs];refine⟨Ap,AL (bU hn) ?_⟩;rintro v rfl;cases c1:Mw n with
 | false=>
  simp_all[QP]
 | true=>
  simp;refine AL ZB ?_;rintro v rfl;cases c2:MV.contains n with
  | true=>
   simp_all[QP]
  | false=>
   rw[c1,c2] at hP
   by_cases c3:ts.length<=6
   .have c3':¬ (6<(ts.length:Int)):=by omega
    rw[Ar c3] at hP;simp[c3'];exact AOO (uw ha hl ih ts.length 0 AA AB)
   .have c3':(6<(ts.length:Int)):=by omega
    simp_all[QP]
theorem wf3 (ha:A2 a (Ad ts)) (hl:Ac ts<2 ^ 38) (ih:∀t∈ts,Af (env R) 73 [.agg ((Aj t).map .pv)] λr=>r=BB (valid t)) (hP:Post (BB (decide (ts.length<=6)&&BC ts))) :
  Rt R 0 0 0 (.ptr 0 0) (AG ts.length) (AG 3) (BB false) ⟨[[AG 3,SS n,AG i,a]],[]⟩ (QP Post):=by
 refine T5 ⟨AD,λ_=>⟨⟨rfl,rfl⟩,⟨AD,λ_=>⟨⟨rfl,rfl⟩,⟨AD,λ_=>⟨⟨rfl,rfl⟩,⟨λ_=>?_,AD⟩⟩⟩⟩⟩⟩⟩
 by_cases c:ts.length<=6
 .have c':¬ (6<(ts.length:Int)):=by omega
  rw[Ar c] at hP;simp[c']
  grind[S2]
 .have c':(6<(ts.length:Int)):=by omega
  simp_all[QP]
theorem wf4 (ha:A2 a (Ad ts)) (hl:Ac ts<2 ^ 38) (ih:∀t∈ts,Af (env R) 73 [.agg ((Aj t).map .pv)] λr=>r=BB (valid t)) (hP:Post (BB (decide (2<=ts.length)&&BC ts))) :
  Rt R 0 0 0 (.ptr 0 0) (AG ts.length) (AG 4) (BB false) ⟨[[AG 4,SS n,AG i,a]],[]⟩ (QP Post):=by
 refine T5 ⟨AD,λ_=>⟨⟨rfl,rfl⟩,⟨AD,λ_=>⟨⟨rfl,rfl⟩,⟨AD,λ_=>⟨⟨rfl,rfl⟩,⟨AD,λ_=>⟨⟨rfl,rfl⟩,⟨λ_=>?_,AD⟩⟩⟩⟩⟩⟩⟩⟩⟩
 by_cases c:2<=ts.length
 .have c':¬ ((ts.length:Int)<2):=by omega
  rw[Ar c] at hP;simp[c']
  grind[S2]
 .have c':((ts.length:Int)<2):=by omega
  simp_all[QP]
theorem wf6 (ha:A2 a (Ad ts)) (hl:Ac ts<2 ^ 38) (ih:∀t∈ts,Af (env R) 73 [.agg ((Aj t).map .pv)] λr=>r=BB (valid t)) (hP:Post (BB (ts.length==2&&T3 ts&&BC ts))) :
  Rt R 0 0 0 (.ptr 0 0) (AG ts.length) (AG 6) (BB false) ⟨[[AG 6,SS n,AG i,a]],[]⟩ (QP Post):=by
 refine T5 ⟨AD,λ_=>⟨⟨rfl,rfl⟩,⟨AD,λ_=>⟨⟨rfl,rfl⟩,⟨AD,λ_=>⟨⟨rfl,rfl⟩,⟨AD,λ_=>⟨⟨rfl,rfl⟩,⟨AD,λ_=>⟨⟨rfl,rfl⟩,⟨λ_=>?_,AD⟩⟩⟩⟩⟩⟩⟩⟩⟩⟩⟩
 by_cases c:ts.length=2
 .obtain⟨t,l,rfl⟩:∃t l,ts=t::l:=by
   cases ts with
   | nil=>grind
   | cons t l=>simp
  have hl':=hl;simp only[Ac] at hl';have e3:Af (env R) 48 [.agg ((Aj t).map .pv)] λr=>r=BB (CP 0 t):=Iw AA (A7.Bi t)
  have hP':Post (BB (CP 0 t&&BC (t::l))):=by
   rw[show(t::l).length==2 by grind] at hP;simpa[T3] using hP
  have b:(((t::l).length:Int) != 2)=false:=by
   rw[c]; rfl
  simp only[Ia,Mt,Js,KW,ER,Fh,Eo,wO,setCells,IM,D5,DF,Ce,E2,alive,DX,KF,Tl,gY,HW,JM,HI,Ib,Lr,JN,oY,kj,okB,oZ,oa,oc,od,og,fP,oh,oo,oq,ot,ou,ow,oz,o5,o6,o7,o8,okF,o9,pE,pF,pG,pH,V7,pI,Qm,Qn,Qo,Qp,pJ,pK,pL,pM,pN,pO,pP,pQ,pR,pS,Hu,pT,kn,pU,pV,pW,pX,pY,pZ,pg,pn,pq,pz,Cp,b];refine⟨⟨Ap,Ap⟩,?_⟩;simp;refine BM ha (row:=Aj t) AA (by simp[Ad]) (Al t) AA ?_;obtain⟨k',n',x,es⟩:=t;simp only[Aj,CO,Co] at e3;simp[Aj];refine AL e3 ?_;rintro v rfl;cases hc:CP 0 (.mk k' n' x es) with
  | false=>
   rw[hc] at hP';simpa[QP,QI] using hP'
  | true=>
   rw[hc] at hP';simp;have:=S2 (n:=n) (k:=6) (i:=i) ha hl ih (by simpa using hP')
   grind
 .have c':¬ ((ts.length:Int)=2):=by omega
  have b:(ts.length==2)=false:=AB;rw[b] at hP;have b':((ts.length:Int) != 2)=true:=AB;simpa[-bne_iff_ne,QP,QI,b'] using hP
theorem wf7 (h5:¬ k=5) (h2:¬ k=2) (h3:¬ k=3) (h4:¬ k=4) (h6:¬ k=6) (hP:Post (BB false)):Rt R 0 0 0 (.ptr 0 0) (AG ts.length) (AG k) (BB false) ⟨[[AG k,SS n,AG i,a]],[]⟩ (QP Post):=by
 refine T5 ⟨AD,λ_=>⟨⟨rfl,rfl⟩,⟨AB,λ_=>⟨⟨rfl,rfl⟩,⟨AB,λ_=>⟨⟨rfl,rfl⟩,⟨AB,λ_=>⟨⟨rfl,rfl⟩,⟨AB,λ_=>⟨⟨rfl,rfl⟩,⟨AB,λ_=>?_⟩⟩⟩⟩⟩⟩⟩⟩⟩⟩⟩;exact⟨_,Hu,hP⟩
theorem Qw (ha:A2 a (Ad ts)) (hs:Ac ts<2 ^ 38) (hn:V7 n) (ih:∀t∈ts,Af (env R) 73 [.agg ((Aj t).map .pv)] λr=>r=BB (valid t)) (hP:Post (BB (shape k n i ts&&BC ts))) :
  AC1 R 0 0 0 (.ptr 0 0) (AG ts.length) ⟨[[AG k,SS n,AG i,a]],[]⟩ (QP Post):=by
 refine AOP ?_
 by_cases h0:k=0
 .simp_all[wf0,shape]
 by_cases h1:k=1
 .simp_all[wf0,shape]
 have b0:(k==0)=false:=AB;have b1:(k==1)=false:=AB;simp[h0];have e:(BB (k==1):AV)=BB false:=by rw[b1]
 grind[wf2,shape,wf3,wf4,wf5,wf6,wf7]
end
end
abbrev ph (v:Nat):Ty:=.mk 7 [] v []
abbrev var (i:Int):Ty:=.mk 5 [] i []
def hole:Int:=1073741824
structure Br where
 bounds:List Ty
 body:Ty
def bX {α:Type} (d:α) (g:Ty->Ty->α):List Ty->α
 | [b,body]=>g b body
 | _=>d
mutual
def Bs (f:Int->Ty):Ty->Ty
 | .mk k n i ts=>bif k==5 then f i else bif k==2||k==3 then .mk k n i (B7 f ts) else .mk k n i ts
def B7 (f:Int->Ty):List Ty->List Ty
 | []=>[]
 | t::l=>Bs f t::B7 f l
end
def G0 (n:Nat):Ty->Ty:=Bs λi=>bif decide (0<=i)&&!(i==hole) then var (i+n) else var i
def qD:Ty->Ty:=Bs λi=>var (-1-i)
def Hq (n:Nat):Ty->Ty:=Bs λi=>bif i==-1 then var n else bif decide (i<0) then var (i+1) else var i
def I5 (n m:Int):Ty->Ty:=Bs λi=>bif i==n then var m else var i
mutual
def oA (p:Int->Bool):Ty->Bool
 | .mk k _ i ts=>bif k==5 then p i else k==2&&T6 p ts
def T6 (p:Int->Bool):List Ty->Bool
 | []=>false
 | t::l=>oA p t||T6 p l
end
mutual
def oI (p:Int->Bool):Ty->Bool
 | .mk k n i ts=>bif k==2 then oA p (.mk k n i ts) else k==3&&J9 p ts
def J9 (p:Int->Bool):List Ty->Bool
 | []=>false
 | t::l=>oI p t||J9 p l
end
mutual
def Ae:Ty->List Int
 | .mk k _ i ts=>bif k==5 then [i] else bif k==3 then Bk ts else []
def Bk:List Ty->List Int
 | []=>[]
 | t::l=>Ae t++Bk l
end
mutual
def MQ (b:Ty):Ty->Nat->Ty
 | .mk c n i ts,k=>bif c==5 then(bif k==0 then b else .mk c n i ts) else bif c==3 then .mk c n i (Gl b ts k) else .mk c n i ts
def Gl (b:Ty):List Ty->Nat->List Ty
 | [],_=>[]
 | t::l,k=>bif decide (k<(Ae t).length) then MQ b t k::l else t::Gl b l (k-(Ae t).length)
end
def Fb (b:Ty):Option Nat:=(Ae b).findIdx? (·==hole)
def Ct (b:Br) (k:Nat) (c:Br):Br:=⟨b.bounds++c.bounds,MQ (G0 b.bounds.length c.body) b.body k⟩
section
variable (A8:Nat->Bool)
def Iy {α β:Type} (g:α->Option (List β)):List α->List β->Option (List β)
 | [],out=>some out
 | a::l,out=>match g a with
  | none=>none
  | some r=>bif A8 (out++r).length then none else Iy g l (out++r)
def EL (l:List Br):Nat->Br->Option (List Br)
 | 0,b=>some [b]
 | f+1,b=>match Fb b.body with
  | none=>some [b]
  | some k=>Iy A8 (λc=>EL l f (Ct b k c)) l []
def E3 (Qx:Option (List Br)) (bound:Ty) (b:Br):Option (List Br):=
 bif oI (·==(b.bounds.length:Int)) (Hq b.bounds.length b.body) then some [⟨b.bounds++[bound],Hq b.bounds.length b.body⟩]
 else match Fb (I5 b.bounds.length hole (Hq b.bounds.length b.body)) with
  | none=>some [⟨b.bounds,I5 b.bounds.length hole (Hq b.bounds.length b.body)⟩]
  | some _=>match Qx with
   | none=>none
   | some l=>EL A8 l (Ae b.body).length ⟨b.bounds,I5 b.bounds.length hole (Hq b.bounds.length b.body)⟩
def HC (out:List Br) (l:List Br):List Br:=out.flatMap λb=>l.map λc=>⟨b.bounds++c.bounds,match b.body with
 | .mk _ _ _ args=>.mk 3 [] 0 (args++[G0 b.bounds.length c.body])⟩
def Ie:List (List Br)->List Br->Option (List Br)
 | [],out=>some out
 | l::ls,out=>bif A8 (HC out l).length then none else Ie ls (HC out l)
def FR {α:Type}:List (Option α)->Option (List α)
 | []=>some []
 | none::_=>none
 | some a::l=>match FR l with
  | none=>none
  | some r=>some (a::r)
def DG:Nat->Ty->Option (List Br)
 | 0,_=>none
 | f+1,.mk k n i ts=>
  bif k==0 then some [⟨[],.mk k n i ts⟩]
  else bif k==2||k==5 then some [⟨[],qD (.mk k n i ts)⟩]
  else bif k==3 then match FR (ts.map (DG f)) with
   | none=>none
   | some ls=>bif ls.any List.isEmpty then some [] else Ie A8 ls [⟨[],.mk 3 [] 0 []⟩]
  else bif k==4 then match FR (ts.map (DG f)) with
   | none=>none
   | some ls=>bif A8 ls.flatten.length then none else some ls.flatten
  else bif k==6 then bX (some []) (λb body=>match DG f body with
    | none=>none
    | some l=>Iy A8 (E3 A8 (DG f b) b) l []) ts
  else some []
mutual
def sub (v:Nat) (u:Nat):Ty->Ty
 | .mk k n i ts=>bif k==5 then(bif i==(u:Int) then ph v else bif decide ((u:Int)<i) then .mk k n (i-1) ts else .mk k n i ts) else .mk k n i (Kk v u k 0 ts)
def Kk (v:Nat) (u:Nat) (k:Int) (j:Nat):List Ty->List Ty
 | []=>[]
 | t::l=>sub v (u+EE k j) t::Kk v u k (j+1) l
end
mutual
def DT (v:Nat) (inv:Bool):Ty->Bool
 | .mk k _ i ts=>bif k==7 then i==(v:Int)&&!inv else F7 v (inv&&!(k==2)) ts
def F7 (v:Nat) (inv:Bool):List Ty->Bool
 | []=>false
 | t::l=>DT v inv t||F7 v inv l
end
mutual
def BX (m:Int->Bool):Ty->Nat
 | .mk k _ i ts=>bif k==7 then(bif m i then 1 else 0) else bif k==3 then Cc m ts else 0
def Cc (m:Int->Bool):List Ty->Nat
 | []=>0
 | t::l=>BX m t+Cc m l
end
mutual
def Ip (m:Int->Bool) (b:Ty):Ty->Nat->Ty
 | .mk c n i ts,k=>bif c==7 then(bif m i&&k==0 then b else .mk c n i ts) else bif c==3 then .mk c n i (KG m b ts k) else .mk c n i ts
def KG (m:Int->Bool) (b:Ty):List Ty->Nat->List Ty
 | [],_=>[]
 | t::l,k=>bif decide (k<BX m t) then Ip m b t k::l else t::KG m b l (k-BX m t)
end
abbrev Fw:=Option (List Ty)×List Ty
def CY {α:Type} (g:α->List Ty->Fw):List α->List Ty->List Ty->Fw
 | [],out,B=>(some out,B)
 | a::l,out,B=>match g a B with
  | (none,B)=>(none,B)
  | (some r,B)=>bif A8 (out++r).length then(none,B) else CY g l (out++r) B
def CN (ex:List Ty->Fw) (v:Nat):Nat->Ty->List Ty->Fw
 | 0,t,B=>(some [t],B)
 | f+1,t,B=>bif DT v false t then match ex B with
   | (none,B)=>(none,B)
   | (some cs,B)=>CY A8 (λc B=>CN ex v f (Ip (·==(v:Int)) c t 0) B) cs [] B
  else(some [t],B)
def B6 (ex:List Ty->Fw) (v:Nat) (t:Ty) (B:List Ty):Fw:=
 bif DT v true t then(some [t],B) else CN A8 ex v (BX (·==(v:Int)) t) t B
def DY:List (List Ty)->List (List Ty)->Option (List (List Ty))
 | [],out=>some out
 | l::ls,out=>bif A8 (out.flatMap λp=>l.map λx=>p++[x]).length then none else DY ls (out.flatMap λp=>l.map λx=>p++[x])
def Gm (ex:Ty->List Ty->Fw):List Ty->List Ty->Bool->List Ty->(List Ty×Bool)×List Ty
 | [],out,ok,B=>((out,ok),B)
 | t::l,out,ok,B=>match ex t B with
  | (none,B)=>Gm ex l out false B
  | (some r,B)=>Gm ex l (out++r) ok B
def E4 (ex:Ty->List Ty->Fw):List Ty->List (List Ty)->List Ty->Option (List (List Ty))×List Ty
 | [],out,B=>(some out,B)
 | t::l,out,B=>match ex t B with
  | (none,B)=>(none,B)
  | (some r,B)=>E4 ex l (out++[r]) B
def A4:Nat->Ty->List Ty->Fw
 | 0,_,B=>(none,B)
 | f+1,.mk k n i ts,B=>
  bif k==0||k==2||k==7 then(bif A8 1 then none else some [.mk k n i ts],B)
  else bif k==4 then match Gm (A4 f) ts [] true B with
   | ((out,ok),B)=>(bif ok&&!A8 out.length then some out else none,B)
  else bif k==3 then match E4 (A4 f) ts [] B with
   | (none,B)=>(none,B)
   | (some ls,B)=>bif ls.any List.isEmpty then(some [],B) else match DY A8 ls [[]] with
    | none=>(none,B)
    | some all=>(bif A8 all.length then none else some (all.map (.mk 3 [] 0)),B)
  else bif k==6 then bX (some [],B) (λb body=>match A4 f (sub B.length 0 body) (B++[b]) with
    | (none,B1)=>(none,B1)
    | (some l,B1)=>match CY A8 (B6 A8 (A4 f b) B.length) l [] B1 with
     | (none,B2)=>(none,B2)
     | (some out,B2)=>(bif A8 out.length then none else some out,B2)) ts
  else(bif A8 0 then none else some [],B)
end
mutual
def vis:Ty->List Int
 | .mk k _ i ts=>bif k==5 then [i] else bif k==2||k==3 then DU ts else []
def DU:List Ty->List Int
 | []=>[]
 | t::l=>vis t++DU l
end
def SJ (t:Ty):Bool:=valid t&&CP 0 t
mutual
def pl:Ty->Bool
 | .mk k n i ts=>bif k==5 then n==[]&&ts.isEmpty else bif k==2 then WA ts else SJ (.mk k n i ts)
def WA:List Ty->Bool
 | []=>true
 | t::l=>pl t&&WA l
end
mutual
def bd:Ty->Bool
 | .mk k n i ts=>bif k==5 then n==[]&&ts.isEmpty else bif k==2 then WA ts else bif k==3 then My ts else SJ (.mk k n i ts)
def My:List Ty->Bool
 | []=>true
 | t::l=>bd t&&My l
end
theorem ko {k i:Int} {n:List UInt8} {ts:List Ty} (hk:k≠6) (h:SJ (.mk k n i ts)=true):∀t∈ts,SJ t=true:=by
 unfold SJ at h;simp only[AH,valid,CP] at h;obtain⟨⟨_,h1⟩,h2⟩:=h;have h3:EF 0 k 0 ts=true:=AB;have k6:(k==6)=false:=AB;have hb:∀j,EE k j=0:=λj=>by simp[EE,k6]
 have:∀(l:List Ty) (j:Nat),BC l=true->EF 0 k j l=true->∀t∈l,SJ t=true:=by
  intro l
  induction l with
  | nil=>simp
  | cons a l ih=>
   grind[BC,EF,SJ]
 grind
theorem T7 {k i:Int} {n:List UInt8} {ts:List Ty} (h:SJ (.mk k n i ts)=true):k≠5/\k≠7:=by grind[SJ,valid,CP,root,shape]
mutual
theorem JO:∀(t:Ty) (f:Int->Ty),SJ t=true->Bs f t=t
 | .mk k n i ts,f,h=>by
  have hk:=T7 h;have b5:(k==5)=false:=AB;rw[Bs,b5];simp only[AK];cases b:(k==2||k==3) with
  | false=>rfl
  | true=>
   have ZD:k≠6:=AB;simp only[AM];rw[bZ ts f (ko ZD h)]
theorem bZ:∀(l:List Ty) (f:Int->Ty),(∀t∈l,SJ t=true)->B7 f l=l
 | [],_,_=>rfl
 | t::l,f,h=>by
  rw[B7,JO t f (h t AD),bZ l f λt ht=>h t (FK _ ht)]
end
mutual
theorem ZE:∀(t:Ty),SJ t=true->vis t=[]
 | .mk k n i ts,h=>by
  have hk:=T7 h;have b5:(k==5)=false:=AB;rw[vis,b5];simp only[AK];cases b:(k==2||k==3) with
  | false=>rfl
  | true=>
   have ZD:k≠6:=AB;simp only[AM];exact kq ts (ko ZD h)
theorem kq:∀(l:List Ty),(∀t∈l,SJ t=true)->DU l=[]
 | [],_=>rfl
 | t::l,h=>by
  rw[DU,ZE t (h t AD),kq l λt ht=>h t (FK _ ht)];rfl
end
mutual
theorem H9 (f:Int->Ty) (g:Int->Int):∀t:Ty,Bs f (Bs (λi=>var (g i)) t)=Bs (λi=>f (g i)) t
 | .mk k n i ts=>by
  rw[Bs,Bs];cases b5:(k==5) with
  | true=>rfl
  | false=>
   cases b:(k==2||k==3) with
   | false=>grind[Bs]
   | true=>simp only[AK,AM,Bs,b5,b,T8 f g ts]
theorem T8 (f:Int->Ty) (g:Int->Int):∀l:List Ty,B7 f (B7 (λi=>var (g i)) l)=B7 (λi=>f (g i)) l
 | []=>rfl
 | t::l=>by simp only[B7,H9 f g t,T8 f g l]
end
mutual
theorem Db {f g:Int->Ty}:∀(t:Ty),(∀i∈vis t,f i=g i)->Bs f t=Bs g t
 | .mk k n i ts,h=>by
  rw[Bs,Bs];rw[vis] at h;cases b5:(k==5) with
  | true=>
   grind
  | false=>
   rw[b5] at h;cases b:(k==2||k==3) with
   | false=>rfl
   | true=>
    rw[b] at h;simp only[AK,AM] at h ⊢;rw[Ru ts h]
theorem Ru {f g:Int->Ty}:∀(l:List Ty),(∀i∈DU l,f i=g i)->B7 f l=B7 g l
 | [],_=>rfl
 | t::l,h=>by
  simp only[DU,B4] at h;rw[B7,B7,Db t λi hi=>h i (.inl hi),Ru l λi hi=>h i (.inr hi)]
end
mutual
theorem KY (g:Int->Int):∀t:Ty,vis (Bs (λi=>var (g i)) t)=(vis t).map g
 | .mk k n i ts=>by
  rw[Bs,vis];cases b5:(k==5) with
  | true=>rfl
  | false=>
   cases b:(k==2||k==3) with
   | false=>grind[vis]
   | true=>simp only[AK,AM,vis,b5,b,bf g ts]
theorem bf (g:Int->Int):∀l:List Ty,DU (B7 (λi=>var (g i)) l)=(DU l).map g
 | []=>rfl
 | t::l=>by simp only[B7,DU,KY g t,bf g l,Ow]
end
mutual
theorem Dp (g:Int->Int):∀t:Ty,Ae (Bs (λi=>var (g i)) t)=(Ae t).map g
 | .mk k n i ts=>by
  rw[Bs,Ae];cases b5:(k==5) with
  | true=>rfl
  | false=>
   cases b3:(k==3) with
   | true=>simp only[AK,AM,Ae,b5,b3,Dv,Wy g ts]
   | false=>
    grind[Ae]
theorem Wy (g:Int->Int):∀l:List Ty,Bk (B7 (λi=>var (g i)) l)=(Bk l).map g
 | []=>rfl
 | t::l=>by simp only[B7,Bk,Dp g t,Wy g l,Ow]
end
mutual
theorem Mz:∀(t:Ty),∀i∈Ae t,i∈vis t
 | .mk k n i ts=>by
  rw[Ae,vis];cases b5:(k==5) with
  | true=>simp
  | false=>
   cases b3:(k==3) with
   | true=>simpa using Wz ts
   | false=>simp
theorem Wz:∀(l:List Ty),∀i∈Bk l,i∈DU l
 | []=>by simp[Bk]
 | t::l=>by
  intro i hi;simp only[Bk,DU,B4] at hi ⊢;rcases hi with hi|hi
  .exact .inl (Mz t i hi)
  .exact .inr (Wz l i hi)
end
mutual
theorem ux (p:Int->Bool) (g:Int->Int):∀t:Ty,pl t=true->oA p (Bs (λi=>var (g i)) t)=oA (λi=>p (g i)) t
 | .mk k n i ts,h=>by
  rw[Bs,oA];cases b5:(k==5) with
  | true=>rfl
  | false=>
   cases b2:(k==2) with
   | true=>
    rw[pl,b5,b2] at h;simp only[AK,AM] at h;simp only[AK,AM,oA,b5,b2,D6,CZ,kr p g ts h]
   | false=>
    grind[oA]
theorem kr (p:Int->Bool) (g:Int->Int):∀l:List Ty,WA l=true->T6 p (B7 (λi=>var (g i)) l)=T6 (λi=>p (g i)) l
 | [],_=>rfl
 | t::l,h=>by
  simp only[WA,AH] at h;simp only[B7,T6,ux p g t h.1,kr p g l h.2]
end
mutual
theorem bg {p q:Int->Bool}:∀t:Ty,(∀i∈vis t,p i=q i)->oA p t=oA q t
 | .mk k n i ts,h=>by
  rw[vis] at h;rw[oA,oA];cases b5:(k==5) with
  | true=>grind
  | false=>
   rw[b5] at h;cases b2:(k==2) with
   | false=>simp
   | true=>
    rw[b2] at h;simp only[AK,AM,D6] at h ⊢;rw[W0 ts h]
theorem W0 {p q:Int->Bool}:∀l:List Ty,(∀i∈DU l,p i=q i)->T6 p l=T6 q l
 | [],_=>rfl
 | t::l,h=>by
  simp only[DU,B4] at h;rw[T6,T6,bg t λi hi=>h i (.inl hi),W0 l λi hi=>h i (.inr hi)]
end
mutual
theorem T9 {p q:Int->Bool}:∀t:Ty,(∀i∈vis t,p i=q i)->oI p t=oI q t
 | .mk k n i ts,h=>by
  have h0:=bg (.mk k n i ts) h;rw[vis] at h;rw[oI,oI];cases b2:(k==2) with
  | true=>grind
  | false=>
   cases b3:(k==3) with
   | false=>simp
   | true=>
    have b5:(k==5)=false:=AB;rw[b5,b3] at h;simp only[AK,AM,Dv] at h;simp only[AK,CZ];exact W4 ts h
theorem W4 {p q:Int->Bool}:∀l:List Ty,(∀i∈DU l,p i=q i)->J9 p l=J9 q l
 | [],_=>rfl
 | t::l,h=>by
  simp only[DU,B4] at h;rw[J9,J9,T9 t λi hi=>h i (.inl hi),W4 l λi hi=>h i (.inr hi)]
end
mutual
theorem AG6 (g:Int->Int):∀t:Ty,pl t=true->pl (Bs (λi=>var (g i)) t)=true
 | .mk k n i ts,h=>by
  rw[Bs];cases b5:(k==5) with
  | true=>rfl
  | false=>
   cases b2:(k==2) with
   | true=>
    rw[pl,b5,b2] at h;simp only[AK,AM] at h;simp only[AK,AM,D6,pl,b5,b2,ZF g ts h]
   | false=>
    have hc:SJ (.mk k n i ts)=true:=by grind[pl]
    have e:=JO (.mk k n i ts) (λi=>var (g i)) hc
    grind[Bs]
theorem ZF (g:Int->Int):∀l:List Ty,WA l=true->WA (B7 (λi=>var (g i)) l)=true
 | [],_=>rfl
 | t::l,h=>by
  simp only[WA,AH] at h;simp only[B7,WA,AG6 g t h.1,ZF g l h.2,Fo]
end
mutual
theorem Qy (g:Int->Int):∀t:Ty,bd t=true->bd (Bs (λi=>var (g i)) t)=true
 | .mk k n i ts,h=>by
  rw[Bs];cases b5:(k==5) with
  | true=>rfl
  | false=>
   cases b2:(k==2) with
   | true=>
    simp_all[bd,ZF]
   | false=>
    cases b3:(k==3) with
    | true=>
     rw[bd,b5,b2,b3] at h;simp only[AK,AM] at h;simp only[AK,AM,Dv,bd,b5,b2,b3,ku g ts h]
    | false=>
     grind
theorem ku (g:Int->Int):∀l:List Ty,My l=true->My (B7 (λi=>var (g i)) l)=true
 | [],_=>rfl
 | t::l,h=>by
  simp only[My,AH] at h;simp only[B7,My,Qy g t h.1,ku g l h.2,Fo]
end
mutual
theorem iE (p:Int->Bool) (g:Int->Int):∀t:Ty,bd t=true->oI p (Bs (λi=>var (g i)) t)=oI (λi=>p (g i)) t
 | .mk k n i ts,h=>by
  cases b2:(k==2) with
  | true=>
   have h2:k=2:=AB;subst h2;have hp:pl (.mk 2 n i ts)=true:=Be;have:=ux p g (.mk 2 n i ts) hp
   assumption
  | false=>
   rw[Bs,oI];cases b5:(k==5) with
   | true=>
    grind[oI]
   | false=>
    cases b3:(k==3) with
    | true=>
     rw[bd,b5,b2,b3] at h;simp only[AK,AM] at h;simp only[AK,AM,Dv,oI,b2,b3,CZ,kz p g ts h]
    | false=>grind[oI]
theorem kz (p:Int->Bool) (g:Int->Int):∀l:List Ty,My l=true->J9 p (B7 (λi=>var (g i)) l)=J9 (λi=>p (g i)) l
 | [],_=>rfl
 | t::l,h=>by
  simp only[My,AH] at h;simp only[B7,J9,iE p g t h.1,kz p g l h.2]
end
theorem G1 {k i:Int} {n:List UInt8} {ts:List Ty} (h:valid (.mk k n i ts)=true):k≠7:=by grind[valid,root,shape]
mutual
theorem Lx (v:Nat):∀(t:Ty) (inv:Bool),valid t=true->DT v inv t=false
 | .mk k n i ts,inv,h=>by
  have b7:(k==7)=false:=by grind[G1]
  simp only[valid,AH] at h;rw[DT,b7];simp only[AK];exact Rv v ts _ h.2
theorem Rv (v:Nat):∀(l:List Ty) (inv:Bool),BC l=true->F7 v inv l=false
 | [],_,_=>rfl
 | t::l,inv,h=>by
  simp only[BC,AH] at h;rw[F7,Lx v t inv h.1,Rv v l inv h.2];rfl
end
theorem Nh {t:Ty} (h:SJ t=true):valid t=true:=by grind[SJ]
section
variable (φ:Int->Nat)
abbrev tr (b:Ty):Ty:=Bs (λi=>ph (φ i)) b
abbrev UA (l:List Ty):List Ty:=B7 (λi=>ph (φ i)) l
mutual
theorem AAt (v:Nat):∀b:Ty,pl b=true->DT v false (tr φ b)=oA (λi=>φ i==v) b
 | .mk k n i ts,h=>by
  rw[tr,Bs,oA];cases b5:(k==5) with
  | true=>
   grind[DT]
  | false=>
   cases b2:(k==2) with
   | true=>
    have h2:k=2:=AB;subst h2;rw[pl] at h;have:=Pa v ts AB
    assumption
   | false=>
    have hc:SJ (.mk k n i ts)=true:=by grind[pl]
    have e:=JO (.mk k n i ts) (λi=>ph (φ i)) hc
    grind[Bs,Lx,Nh]
theorem Pa (v:Nat):∀l:List Ty,WA l=true->F7 v false (UA φ l)=T6 (λi=>φ i==v) l
 | [],_=>rfl
 | t::l,h=>by
  simp only[WA,AH] at h;rw[UA,B7,F7,T6];rw[AAt v t h.1,Pa v l h.2]
end
mutual
theorem ZG (v:Nat):∀b:Ty,bd b=true->DT v true (tr φ b)=oI (λi=>φ i==v) b
 | .mk k n i ts,h=>by
  rw[tr,Bs,oI];cases b5:(k==5) with
  | true=>
   grind[DT]
  | false=>
   cases b2:(k==2) with
   | true=>
    simp_all[bd,Pa,DT,oA]
   | false=>
    cases b3:(k==3) with
    | true=>
     have h3:k=3:=AB;subst h3;rw[bd] at h;have:=bh v ts AB
     assumption
    | false=>
     grind[bd,Lx,Nh]
theorem bh (v:Nat):∀l:List Ty,My l=true->F7 v true (UA φ l)=J9 (λi=>φ i==v) l
 | [],_=>rfl
 | t::l,h=>by
  simp only[My,AH] at h;rw[UA,B7,F7,J9,ZG v t h.1,bh v l h.2]
end
mutual
theorem uy (v:Nat):∀b:Ty,bd b=true->DT v false (tr φ b)=(oI (λi=>φ i==v) b||(Ae b).any λi=>φ i==v)
 | .mk k n i ts,h=>by
  rw[tr,Bs,oI,Ae];cases b5:(k==5) with
  | true=>
   grind[DT]
  | false=>
   cases b2:(k==2) with
   | true=>
    simp_all[bd,Pa,DT,oA]
   | false=>
    cases b3:(k==3) with
    | true=>
     have h3:k=3:=AB;subst h3;rw[bd] at h;have:=lB v ts AB
     assumption
    | false=>
     grind[bd,Lx,Nh]
theorem lB (v:Nat):∀l:List Ty,My l=true->F7 v false (UA φ l)=(J9 (λi=>φ i==v) l||(Bk l).any λi=>φ i==v)
 | [],_=>rfl
 | t::l,h=>by
  simp only[My,AH] at h;rw[UA,B7,F7,J9,Bk,uy v t h.1,lB v l h.2,List.any_append]
  grind
end
mutual
theorem UB (m:Int->Bool):∀b:Ty,bd b=true->BX m (tr φ b)=(Ae b).countP λi=>m (φ i)
 | .mk k n i ts,h=>by
  rw[tr,Bs,Ae];cases b5:(k==5) with
  | true=>
   rfl
  | false=>
   cases b3:(k==3) with
   | true=>
    have h3:k=3:=AB;subst h3;rw[bd] at h;have:=lD m ts AB
    assumption
   | false=>
    grind[bd,T7,BX]
theorem lD (m:Int->Bool):∀l:List Ty,My l=true->Cc m (UA φ l)=(Bk l).countP λi=>m (φ i)
 | [],_=>rfl
 | t::l,h=>by
  simp only[My,AH] at h;rw[UA,B7,Cc,Bk,UB m t h.1,lD m l h.2,Sd]
end
mutual
theorem uz (m:Int->Bool) (c:Ty):∀(b:Ty) (k j:Nat),bd b=true->(∃x,(Ae b)[k]?=some x/\m (φ x)=true)->((Ae b).take k).countP (λi=>m (φ i))=j->tr φ (MQ c b k)=Ip m (tr φ c) (tr φ b) j
 | .mk k n i ts,q,j,h,hx,hj=>by
  cases b5:(k==5) with
  | true=>
   grind[Ae,MQ,Bs,Ip]
  | false=>
   cases b3:(k==3) with
   | true=>
    have h3:k=3:=AB;subst h3;rw[bd] at h;rw[Ae] at hx hj;have:=u6 m c ts q j AB AB AB
    grind[MQ,Bs,Ip]
   | false=>
    grind[Ae]
theorem u6 (m:Int->Bool) (c:Ty):∀(l:List Ty) (k j:Nat),My l=true->(∃x,(Bk l)[k]?=some x/\m (φ x)=true)->((Bk l).take k).countP (λi=>m (φ i))=j->UA φ (Gl c l k)=KG m (tr φ c) (UA φ l) j
 | [],q,j,_,hx,_=>by rfl
 | t::l,q,j,h,hx,hj=>by
  simp only[My,AH] at h;obtain⟨x,hx,hm⟩:=hx;rw[Bk] at hx hj;have hc:=UB φ m t h.1;rw[show UA φ (t::l)=tr φ t::UA φ l from rfl]
  by_cases hq:q<(Ae t).length
  .rw[CT hq] at hx
   rw[YT AA] at hj;have hlt:j<BX m (tr φ t):=by grind[List.take_append_drop]
   rw[Gl,KG,Ar hq,Ar hlt];simp only[AM];rw[<-uz m c t q j h.1 ⟨x,hx,hm⟩ hj];rfl
  .rw[EO AA] at hx
   rw[List.take_append,CU AA,Sd,<-hc] at hj;have hlt:¬ j<BX m (tr φ t):=AA;rw[Gl,KG,Az hq,Az hlt];simp only[AK];rw[<-u6 m c l (q-(Ae t).length) (j-BX m (tr φ t)) h.2 ⟨x,hx,hm⟩ AA];rfl
end
end
section
variable (c:Ty)
mutual
theorem Ni:∀(b:Ty) (k:Nat),k<(Ae b).length->Ae (MQ c b k)=(Ae b).take k++(Ae c++(Ae b).drop (k+1))
 | .mk q n i ts,k,hk=>by
  rw[Ae] at hk ⊢;rw[MQ];cases b5:(q==5) with
  | true=>
   grind
  | false=>
   rw[b5] at hk;cases b3:(q==3) with
   | true=>
    rw[b3] at hk;simp only[AK,AM] at hk ⊢;rw[Ae,b5,b3];exact bk ts k hk
   | false=>grind
theorem bk:∀(l:List Ty) (k:Nat),k<(Bk l).length->Bk (Gl c l k)=(Bk l).take k++(Ae c++(Bk l).drop (k+1))
 | [],k,hk=>by grind[Bk]
 | t::l,k,hk=>by
  rw[Bk] at hk ⊢;rw[Gl]
  by_cases h:k<(Ae t).length
  .rw[Ar h]
   simp only[AM,Bk];rw[Ni t k h,YT AA,List.drop_append_of_le_length AA];simp
  .rw[Az h]
   simp only[AK,Bk];have hk':k-(Ae t).length<(Bk l).length:=AB;have e1:(Ae t).take k=Ae t:=CU AA;have e2:(Ae t).drop (k+1)=[]:=CH AA;rw[bk l _ hk',List.take_append,e1,List.drop_append,e2]
   grind
end
mutual
theorem ZH:∀(b:Ty) (k:Nat),∀i∈vis (MQ c b k),i∈vis b\/i∈vis c
 | .mk q n j ts,k,i,hi=>by
  rw[MQ] at hi;cases b5:(q==5) with
  | true=>
   grind
  | false=>
   rw[b5] at hi;cases b3:(q==3) with
   | true=>
    rw[b3] at hi;simp only[AK,AM] at hi;rw[vis,b5,b3] at hi ⊢;simp only[AK,Dv,AM] at hi ⊢;exact lF ts k i hi
   | false=>
    grind
theorem lF:∀(l:List Ty) (k:Nat),∀i∈DU (Gl c l k),i∈DU l\/i∈vis c
 | [],k,i,hi=>by grind[Gl]
 | t::l,k,i,hi=>by
  rw[Gl] at hi;simp only[DU,B4];cases b:decide (k<(Ae t).length) with
  | true=>
   rw[b] at hi;simp only[AM,DU,B4] at hi;rcases hi with hi|hi
   .rcases ZH t k i hi with h|h
    all_goals grind
   grind
  | false=>
   rw[b] at hi;simp only[AK,DU,B4] at hi;rcases hi with hi|hi
   .grind
   .rcases lF l _ i hi with h|h
    all_goals grind
end
mutual
theorem AC2 (p:Int->Bool):∀(b:Ty) (k:Nat),oI p (MQ c b k)=true->oI p b=true\/oI p c=true
 | .mk q n j ts,k,hi=>by
  rw[MQ] at hi;cases b5:(q==5) with
  | true=>
   grind
  | false=>
   rw[b5] at hi;cases b3:(q==3) with
   | true=>
    have h3:q=3:=AB;subst h3;simp only[AK,AM,CW] at hi;rw[oI] at hi ⊢;simp only[show((3:Int)==2)=false from rfl,AK,CW,CZ] at hi ⊢;exact u7 p ts k hi
   | false=>
    grind
theorem u7 (p:Int->Bool):∀(l:List Ty) (k:Nat),J9 p (Gl c l k)=true->J9 p l=true\/oI p c=true
 | [],k,hi=>by grind[Gl]
 | t::l,k,hi=>by
  rw[Gl] at hi;simp only[J9,De];cases b:decide (k<(Ae t).length) with
  | true=>
   rw[b] at hi;simp only[AM,J9,De] at hi;rcases hi with hi|hi
   .rcases AC2 p t k hi with h|h
    all_goals grind
   grind
  | false=>
   rw[b] at hi;simp only[AK,J9,De] at hi;rcases hi with hi|hi
   .grind
   .rcases u7 p l _ hi with h|h
    all_goals grind
end
mutual
theorem u9 (hc:bd c=true):∀(b:Ty) (k:Nat),bd b=true->bd (MQ c b k)=true
 | .mk q n j ts,k,h=>by
  rw[MQ];cases b5:(q==5) with
  | true=>
   grind
  | false=>
   cases b3:(q==3) with
   | true=>
    have h3:q=3:=AB;subst h3;rw[bd] at h;simp only[AK,AM];rw[bd];have:=vA hc ts k AB
    grind
   | false=>grind
theorem vA (hc:bd c=true):∀(l:List Ty) (k:Nat),My l=true->My (Gl c l k)=true
 | [],k,h=>h
 | t::l,k,h=>by
  simp only[My,AH] at h;rw[Gl];cases decide (k<(Ae t).length) with
  | true=>simp[My,u9 hc t k h.1,h.2]
  | false=>simp[My,vA hc l _ h.2,h.1]
end
end
mutual
theorem vB:∀(b:Ty),pl b=true->∀i∈vis b,oA (·==i) b=true
 | .mk k n j ts,h,i,hi=>by
  rw[vis] at hi;rw[oA];cases b5:(k==5) with
  | true=>rw[b5] at hi; simp at hi; simp[hi]
  | false=>
   cases b2:(k==2) with
   | true=>
    rw[pl,b5,b2] at h;rw[b5,b2] at hi;simp only[AK,AM,D6] at h hi;simp[lG ts h i hi]
   | false=>
    have hc:SJ (.mk k n j ts)=true:=by grind[pl]
    have:=ZE _ hc
    grind[vis]
theorem lG:∀(l:List Ty),WA l=true->∀i∈DU l,T6 (·==i) l=true
 | [],_,i,hi=>by cases hi
 | t::l,h,i,hi=>by
  simp only[WA,AH] at h;rw[DU,B4] at hi;rw[T6,De];rcases hi with hi|hi
  .exact .inl (vB t h.1 i hi)
  .exact .inr (lG l h.2 i hi)
end
mutual
theorem W5:∀(b:Ty),bd b=true->∀i∈vis b,i∈Ae b\/oI (·==i) b=true
 | .mk k n j ts,h,i,hi=>by
  cases b2:(k==2) with
  | true=>
   grind[pl,bd,oI,vB]
  | false=>
   rw[vis] at hi;rw[Ae,oI];cases b5:(k==5) with
   | true=>grind
   | false=>
    cases b3:(k==3) with
    | true=>
     rw[bd,b5,b2,b3] at h;rw[b5,b2,b3] at hi;simp only[AK,AM,Dv] at h hi;have:=UC ts h i hi
     grind
    | false=>
     grind
theorem UC:∀(l:List Ty),My l=true->∀i∈DU l,i∈Bk l\/J9 (·==i) l=true
 | [],_,i,hi=>by cases hi
 | t::l,h,i,hi=>by
  simp only[My,AH] at h;rw[DU,B4] at hi;rw[Bk,B4,J9,De];rcases hi with hi|hi
  .rcases W5 t h.1 i hi with h' | h'
   all_goals grind
  .rcases UC l h.2 i hi with h' | h'
   all_goals grind
end
mutual
theorem iG (p:Int->Bool):∀(b:Ty),oI p b=true->∃i∈vis b,p i=true
 | .mk k n j ts,h=>by
  rw[oI] at h;cases b2:(k==2) with
  | true=>
   rw[b2] at h;simp only[AM] at h;exact vC p _ h
  | false=>
   rw[b2] at h;simp only[AK,AH] at h;have h3:k=3:=AB;subst h3;rw[vis];simpa using lH p ts h.2
theorem lH (p:Int->Bool):∀(l:List Ty),J9 p l=true->∃i∈DU l,p i=true
 | [],h=>by cases h
 | t::l,h=>by
  rw[J9,De] at h;rw[DU];rcases h with h|h
  .obtain⟨i,h1,h2⟩:=iG p t h
   grind
  .obtain⟨i,h1,h2⟩:=lH p l h
   grind
theorem vC (p:Int->Bool):∀(b:Ty),oA p b=true->∃i∈vis b,p i=true
 | .mk k n j ts,h=>by
  rw[oA] at h;rw[vis];cases b5:(k==5) with
  | true=>
   grind
  | false=>
   rw[b5] at h;simp only[AK,AH] at h;simpa[h.1] using lI p ts h.2
theorem lI (p:Int->Bool):∀(l:List Ty),T6 p l=true->∃i∈DU l,p i=true
 | [],h=>by cases h
 | t::l,h=>by
  rw[T6,De] at h;rw[DU];rcases h with h|h
  .obtain⟨i,h1,h2⟩:=vC p t h
   grind
  .obtain⟨i,h1,h2⟩:=lI p l h
   grind
end
mutual
def inst (σ:List Nat) (u:Nat):Ty->Ty
 | .mk k n i ts=>bif k==5 then(bif decide ((u:Int)<=i) then(match σ[(i-u).toNat]? with
  | some v=>ph v
  | none=>.mk k n i ts) else .mk k n i ts) else .mk k n i (Dd σ u k 0 ts)
def Dd (σ:List Nat) (u:Nat) (k:Int) (j:Nat):List Ty->List Ty
 | []=>[]
 | t::l=>inst σ (u+EE k j) t::Dd σ u k (j+1) l
end
theorem DZ {u:Nat} {k i:Int} {n:List UInt8} {ts:List Ty} (h:CP u (.mk k n i ts)=true) (h5:k≠5):EF u k 0 ts=true:=by grind[CP]
theorem LB {u:Nat} {i:Int} {n:List UInt8} {ts:List Ty} (h:CP u (.mk 5 n i ts)=true):i<u:=by grind[CP]
theorem EY {n:List UInt8} {i:Int} {ts:List Ty} (h:valid (.mk 5 n i ts)=true):n=[]/\ts=[]/\0<=i:=by grind[valid,root,shape]
mutual
theorem JP (σ:List Nat):∀(t:Ty) (u:Nat),valid t=true->CP u t=true->inst σ u t=t
 | .mk k n i ts,u,hv,hc=>by
  rw[inst]
  by_cases h5:k=5
  .subst h5
   have:=LB hc
   grind
  .have b5:(k==5)=false:=by grind
   simp only[valid,AH] at hv;rw[b5];simp only[AK];rw[bl σ ts u k 0 hv.2 (DZ hc h5)]
theorem bl (σ:List Nat):∀(l:List Ty) (u:Nat) (k:Int) (j:Nat),BC l=true->EF u k j l=true->Dd σ u k j l=l
 | [],_,_,_,_,_=>rfl
 | t::l,u,k,j,hv,hc=>by
  simp only[BC,AH] at hv;simp only[EF,AH] at hc;rw[Dd,JP σ t _ hv.1 hc.1,bl σ l u k (j+1) hv.2 hc.2]
end
mutual
theorem Jt (v:Nat) (σ:List Nat):∀(t:Ty) (u:Nat),valid t=true->CP (u+1+σ.length) t=true->sub v u (inst σ (u+1) t)=inst (v::σ) u t
 | .mk k n i ts,u,hv,hc=>by
  rw[inst,inst]
  by_cases h5:k=5
  .subst h5
   have hi:=LB hc;obtain⟨rfl,rfl,h0⟩:=EY hv;simp only[CW,AM]
   by_cases hu:(u:Int)+1<=i
   .have h1:((u+1:Nat):Int)<=i:=by omega
    have h2:(u:Int)<=i:=AA;rw[Ar h1,Ar h2];simp only[AM];have e:(i-(u:Int)).toNat=(i-((u+1:Nat):Int)).toNat+1:=AA;rw[e,IJ];obtain⟨w,hw⟩:∃w,σ[(i-((u+1:Nat):Int)).toNat]?=some w:=⟨_,Au AA⟩
    simp_all[sub,Kk]
   grind[sub]
  .have b5:(k==5)=false:=by grind
   simp only[valid,AH] at hv;rw[b5];simp only[AK];rw[sub,b5];simp only[AK];rw[W6 v σ ts u k 0 hv.2 (DZ hc h5)]
theorem W6 (v:Nat) (σ:List Nat):∀(l:List Ty) (u:Nat) (k:Int) (j:Nat),BC l=true->EF (u+1+σ.length) k j l=true->Kk v u k j (Dd σ (u+1) k j l)=Dd (v::σ) u k j l
 | [],_,_,_,_,_=>rfl
 | t::l,u,k,j,hv,hc=>by
  simp only[BC,AH] at hv;simp only[EF,AH] at hc;rw[Dd,Kk,Dd];have e:u+1+EE k j=u+EE k j+1:=AA;rw[e,Jt v σ t (u+EE k j) hv.1 AB,W6 v σ l u k (j+1) hv.2 hc.2]
end
theorem Rw {n:List UInt8} {i:Int} {ts:List Ty} (h:valid (.mk 2 n i ts)=true):ET ts=true:=by grind[valid,root,shape]
mutual
theorem OT (σ:List Nat):∀(t:Ty),valid t=true->plain t=true->CP σ.length t=true->pl t=true/\inst σ 0 t=tr (λi=>σ.getD i.toNat 0) t
 | .mk k n i ts,hv,hp,hc=>by
  by_cases h5:k=5
  .subst h5
   obtain⟨rfl,rfl,h0⟩:=EY hv;have hi:=LB hc
   grind[pl,inst,Bs]
  .have b5:(k==5)=false:=by grind
   by_cases h2:k=2
   .subst h2
    have Kt:=Rw hv;simp only[valid,AH] at hv;obtain⟨q1,q2⟩:=Rx σ ts 2 AI 0 hv.2 Kt (DZ hc AI)
    grind[pl,inst,Bs]
   grind[plain,SJ,pl,JP,JO]
theorem Rx (σ:List Nat):∀(l:List Ty) (k:Int),k≠6->∀(j:Nat),BC l=true->ET l=true->EF σ.length k j l=true->WA l=true/\Dd σ 0 k j l=UA (λi=>σ.getD i.toNat 0) l
 | [],_,_,_,_,_,_=>⟨rfl,rfl⟩
 | t::l,k,h6,j,hv,hp,hc=>by
  simp only[BC,AH] at hv;simp only[ET,AH] at hp;have b6:(k==6)=false:=AB;have hb:EE k j=0:=by simp[EE,b6]
  simp only[EF,AH,hb,Gr] at hc;obtain⟨q1,q2⟩:=OT σ t hv.1 hp.1 hc.1;obtain⟨r1,r2⟩:=Rx σ l k h6 (j+1) hv.2 hp.2 hc.2;refine⟨by grind[WA],?_⟩;rw[Dd,hb,Gr,q2,r2];rfl
end
mutual
theorem Qz (u:Nat):∀(t:Ty),valid t=true->CP u t=true->∀i∈vis t,0<=i/\i<u
 | .mk k n j ts,hv,hc,i,hi=>by
  rw[vis] at hi
  by_cases h5:k=5
  .subst h5
   obtain⟨rfl,rfl,h0⟩:=EY hv;have:=LB hc
   grind
  .have b5:(k==5)=false:=by grind
   rw[b5] at hi;cases b:(k==2||k==3) with
   | false=>grind
   | true=>
    rw[b] at hi;simp only[AK,AM] at hi;simp only[valid,AH] at hv;exact UD u ts k AB 0 hv.2 (DZ hc h5) i hi
theorem UD (u:Nat):∀(l:List Ty) (k:Int),k≠6->∀(j:Nat),BC l=true->EF u k j l=true->∀i∈DU l,0<=i/\i<u
 | [],_,_,_,_,_,i,hi=>by cases hi
 | t::l,k,h6,j,hv,hc,i,hi=>by
  simp only[BC,AH] at hv;have b6:(k==6)=false:=AB;have hb:EE k j=0:=by simp[EE,b6]
  simp only[EF,AH,hb,Gr] at hc;rw[DU,B4] at hi;rcases hi with hi|hi
  .exact Qz u t hv.1 hc.1 i hi
  .exact UD u l k h6 (j+1) hv.2 hc.2 i hi
end
end Go.Proofs.YtpgfpakdnijngaaGreatDoor
