/-
  Terms ts plain data; their size and depth.
-/
import Derived.Test.YtpgfpakdnijngaaGreatDoorW1
import Derived.Test.YtpgfpakdnijngaaGreatDoorWpH
set_option linter.all false
namespace Go.Proofs.YtpgfpakdnijngaaGreatDoor
open Go.Tel
attribute [local simp] IJ Mx Jw Kh Dc Fk Ew wO setCells HM Df DQ CT DY alive DI KQ UI jG Hi JU Gk Ip L2 JV qD mC okB qE qH qI qJ qK iG qL qN qO qP qQ qR qT qU qV qW qX okF qY qZ qa qb qc Q0 qd Q1 Q2 Q3 Q4 qe qf qg qh qi qj qm qo qp qq GX qt mD qu qv qw qx qy rA rC rD rF rH CD
inductive Ty where
 | mk (kind:Int) (name:List UInt8) (index:Int) (args:List Ty)
mutual
def Ah:Ty->List PV
 | .mk k n i ts=>[.sc (.int .i64 k),.sc (.string ⟨n.toArray⟩),.sc (.int .i64 i),.list (AZ ts)]
def AZ:List Ty->List (List PV)
 | []=>[]
 | v::vs=>Ah v::AZ vs
end
theorem Hj:∀l,AZ l=l.map Ah
 | []=>by rfl
 | v::vs=>by simp[AZ,Hj vs]
theorem Aj (v:Ty):(Ah v).length=4:=by cases v; rfl
theorem Ab (l:List Ty):(AZ l).length=l.length:=by simp[Hj]
theorem BL {l:List Ty} {i:Nat} {a:Ty} (h:l[i]?=some a):(AZ l)[i]?=some (Ah a):=by grind[Hj]
def A8 (v:Ty) (x:AV):Prop:=match v with
 | .mk k n i ts=>∃a,x=.agg [AG k,SS n,AG i,a]/\A0 a (AZ ts)
theorem A8.Bk (v:Ty):A8 v (.agg ((Ah v).map .pv)):=by
 cases v with
 | mk k n s es=>exact⟨_,AR,.list _⟩
theorem drop_cons {α:Type} {l:List α} {i:Nat} {a:α} (h:l[i]?=some a):l.drop i=a::l.drop (i+1):=by grind[List.drop_eq_getElem_cons]
mutual
def size:Ty->Nat
 | .mk _ _ _ ts=>Ac ts+1
def Ac:List Ty->Nat
 | []=>0
 | a::l=>size a+Ac l
end
mutual
def depth:Ty->Nat
 | .mk _ _ _ ts=>Ci ts+1
def Ci:List Ty->Nat
 | []=>0
 | a::l=>max (depth a) (Ci l)
end
theorem size_pos (t:Ty):0<size t:=by cases t; simp[size]
theorem BS:∀l:List Ty,l.length<=Ac l
 | []=>by simp
 | a::l=>by
  have:=size_pos a;have:=BS l
  grind[Ac]
mutual
theorem UJ:∀t:Ty,depth t<=size t
 | .mk _ _ _ ts=>by
  have:=Xa ts
  grind[depth,size]
theorem Xa:∀l:List Ty,Ci l<=Ac l
 | []=>by simp[Ci]
 | a::l=>by
  have:=UJ a;have:=Xa l
  grind[Ci,Ac]
end
theorem F8:∀{l:List Ty} {a:Ty},a∈l->size a<=Ac l
 | [],_,h=>by cases h
 | b::l,a,h=>by
  simp only[Ac];rcases A3.1 h with rfl|h
  .omega
  .have:=F8 h; omega
section
variable {R:Nat->Option (List PV)}
theorem rI {ts:List Ty} {a:AV} (ha:A0 a (AZ ts)) (hl:Ac ts<2 ^ 60) (ih:∀t∈ts,Ae (env R) 84 [.agg ((Ah t).map .pv)] λr=>r=AG (size t)) {Post:AV->Prop} :
  ∀(j i c:Nat) (s:AQ),i+j=ts.length->c+Ac (ts.drop i)<2 ^ 61->Post (AG ((c+Ac (ts.drop i):Nat):Int))->ADi R 0 0 0 (AG c) a (AG ts.length) (AG i) s (QP Post):=by
 have Sj:=BS ts;intro j
 induction j with
 | zero=>
  intro i c s hi hc hP;refine ADj ?_;have h1:¬ ((i:Int)<ts.length):=AA;simp[h1];refine AO1 ?_
  simp_all[QP,Ac]
 | succ j D9=>
  intro i c s hi hc hP;refine ADj ?_;have h1:((i:Int)<ts.length):=AA;obtain⟨t,ht⟩:∃t,ts[i]?=some t:=⟨_,Ay AA⟩;have hd:=drop_cons ht;rw[hd] at hP hc;simp only[Ac] at hP hc;simp[h1];refine AO2 ?_;refine BR ha (row:=Ah t) AA (by grind[BL]) (Aj t) AA ?_;have e3:=ih t (A5 ht);have e4:size t<=Ac ts:=F8 (A5 ht);obtain⟨k,n,x,es⟩:=t;simp only[Ah,CP,Cd] at e3;simp[Ah,TQ,UK,TR,UL];refine AH e3 ?_;rintro v rfl;simp only[DI];refine⟨⟨Ai,Ai⟩,CS AA AA (AO3 ?_)⟩;simp only[DI];refine⟨⟨Ai,Ai⟩,CS AA AA ?_⟩;have:=D9 (i+1) (c+size (.mk k n x es)) ⟨s.bs++[[AG k,SS n,AG x,.pv (.list (AZ es))]],s.ts⟩ AA AA AB
  grind
mutual
theorem Q5:∀(t:Ty),size t<2 ^ 60->∀(x:AV),A8 t x->Ae (env R) 84 [x] λr=>r=AG (size t)
 | .mk k n i ts,h,x,hx=>by
  obtain⟨a,rfl,ha⟩:=hx;simp only[size] at h;have ih:=UM ts AA;refine e84 (u0:=.agg [AG k,SS n,AG i,a]) (by simp[ha.close]) (AO4 ?_);simp[ha.ok,ha.BD,Ab];refine rI ha AA ih ts.length 0 1 _ AA AB ?_
  grind[size]
theorem UM:∀(l:List Ty),Ac l<2 ^ 60->∀t∈l,Ae (env R) 84 [.agg ((Ah t).map .pv)] λr=>r=AG (size t)
 | [],_,_,h=>by cases h
 | e::l,ho,a,h=>by
  simp only[Ac] at ho;rcases A3.1 h with h' | h'
  .rw[h']
   exact Q5 e AA _ (A8.Bk e)
  .exact UM l AA a h'
end
end
section
variable {R:Nat->Option (List PV)}
theorem jH {k i:Int} {n:List UInt8} {ts:List Ty} {a:AV} (ha:A0 a (AZ ts)) (hl:Ac ts<2 ^ 60) (ih:∀t∈ts,Ae (env R) 71 [.agg ((Ah t).map .pv)] λr=>r=AG (size t)) {Post:AV->Prop} :
  ∀(j q c:Nat),q+j=ts.length->c+Ac (ts.drop q)<2 ^ 61->Post (AG ((c+Ac (ts.drop q):Nat):Int))->ADk R 0 0 0 (.ptr 0 0) (AG c) (AG q) ⟨[[AG k,SS n,AG i,a]],[]⟩ (QP Post):=by
 have Sj:=BS ts;intro j
 induction j with
 | zero=>
  intro q c hi hc hP;refine ADl ?_;have h1:¬ ((q:Int)<ts.length):=AA;simp[ha.BD,Ab,h1];refine AO5 ?_
  simp_all[QP,Ac]
 | succ j D9=>
  intro q c hi hc hP;refine ADl ?_;have h1:((q:Int)<ts.length):=AA;obtain⟨t,ht⟩:∃t,ts[q]?=some t:=⟨_,Ay AA⟩;have hd:=drop_cons ht;rw[hd] at hP hc;simp only[Ac] at hP hc;simp[ha.BD,Ab,h1];refine AO6 ?_;simp;refine BR ha (row:=Ah t) AA (by grind[BL]) (Aj t) AA ?_;have e3:=ih t (A5 ht);have e4:size t<=Ac ts:=F8 (A5 ht);obtain⟨k,n,x,es⟩:=t;simp only[Ah,CP,Cd] at e3;simp[Ah];refine AH e3 ?_;rintro v rfl;simp only[DI];refine⟨⟨Ai,Ai⟩,CS AA AA (AO7 ?_)⟩;simp only[DI];refine⟨⟨Ai,Ai⟩,CS AA AA ?_⟩;have:=D9 (q+1) (c+size (.mk k n x es)) AA AA (by simpa[Y8] using hP);simpa using this
mutual
theorem Ob:∀(t:Ty),size t<2 ^ 60->∀(x:AV),A8 t x->Ae (env R) 71 [x] λr=>r=AG (size t)
 | .mk k n i ts,h,x,hx=>by
  obtain⟨a,rfl,ha⟩:=hx;simp only[size] at h;have ih:=R5 ts AA;refine e71 (u0:=.agg [AG k,SS n,AG i,a]) (by simp[ha.close]) (AO8 ?_);simp[ha.ok];refine jH ha AA ih ts.length 0 1 AA AB ?_
  grind[size]
theorem R5:∀(l:List Ty),Ac l<2 ^ 60->∀t∈l,Ae (env R) 71 [.agg ((Ah t).map .pv)] λr=>r=AG (size t)
 | [],_,_,h=>by cases h
 | e::l,ho,a,h=>by
  simp only[Ac] at ho;rcases A3.1 h with h' | h'
  .rw[h']
   exact Ob e AA _ (A8.Bk e)
  .exact R5 l AA a h'
end
theorem jI {ts:List Ty} {a:AV} (ha:A0 a (AZ ts)) (hl:Ac ts<2 ^ 60) (ih:∀t∈ts,Ae (env R) 85 [.agg ((Ah t).map .pv)] λr=>r=AG (depth t)) {Post:AV->Prop} :
  ∀(j i c:Nat) (s:AQ),i+j=ts.length->c<2 ^ 60->Post (AG ((max c (Ci (ts.drop i))+1:Nat):Int))->ADm R 0 0 0 (AG c) a (AG ts.length) (AG i) s (QP Post):=by
 have Sj:=BS ts;intro j
 induction j with
 | zero=>
  intro i c s hi hc hP;refine ADn ?_;have h1:¬ ((i:Int)<ts.length):=AA;simp[h1];refine AO9 ?_;have h2:ts.drop i=[]:=CA AA;rw[h2] at hP;simp only[Ci,Nat.max_zero] at hP;simp only[DI];refine⟨⟨Ai,Ai⟩,CS AA AA ?_⟩;exact⟨_,GX,AB⟩
 | succ j D9=>
  intro i c s hi hc hP;refine ADn ?_;have h1:((i:Int)<ts.length):=AA;obtain⟨t,ht⟩:∃t,ts[i]?=some t:=⟨_,Ay AA⟩;have hd:=drop_cons ht;rw[hd] at hP;simp only[Ci] at hP;simp[h1];refine APA ?_;refine BR ha (row:=Ah t) AA (by grind[BL]) (Aj t) AA ?_;have e3:=ih t (A5 ht);have e4:size t<=Ac ts:=F8 (A5 ht);have e5:=UJ t;obtain⟨k,n,x,es⟩:=t;simp only[Ah,CP,Cd] at e3;simp[Ah,TQ,UK,TR,UL];refine AH e3 ?_;rintro v rfl;refine Xb (x:=.tmp 13) (y:=.tmp 15) (t:=#[3,3]) AR rfl rfl (APB ?_);simp only[DI];refine⟨⟨Ai,Ai⟩,CS AA AA ?_⟩;have:=D9 (i+1) (max c (depth (.mk k n x es))) ⟨s.bs++[[AG k,SS n,AG x,.pv (.list (AZ es))]],s.ts⟩ AA AA AB
  grind
mutual
theorem UN:∀(t:Ty),size t<2 ^ 60->∀(x:AV),A8 t x->Ae (env R) 85 [x] λr=>r=AG (depth t)
 | .mk k n i ts,h,x,hx=>by
  obtain⟨a,rfl,ha⟩:=hx;simp only[size] at h;have ih:=R6 ts AA;refine e85 (u0:=.agg [AG k,SS n,AG i,a]) (by simp[ha.close]) (APC ?_);simp[ha.ok,ha.BD,Ab];refine jI ha AA ih ts.length 0 0 _ AA AA ?_;rfl
theorem R6:∀(l:List Ty),Ac l<2 ^ 60->∀t∈l,Ae (env R) 85 [.agg ((Ah t).map .pv)] λr=>r=AG (depth t)
 | [],_,_,h=>by cases h
 | e::l,ho,a,h=>by
  simp only[Ac] at ho;rcases A3.1 h with h' | h'
  .rw[h']
   exact UN e AA _ (A8.Bk e)
  .exact R6 l AA a h'
end
theorem cj {k i:Int} {n:List UInt8} {ts:List Ty} {a:AV} (ha:A0 a (AZ ts)) (hl:Ac ts<2 ^ 60) (ih:∀t∈ts,Ae (env R) 72 [.agg ((Ah t).map .pv)] λr=>r=AG (depth t)) {Post:AV->Prop} :
  ∀(j q c:Nat),q+j=ts.length->c<2 ^ 60->Post (AG ((max c (Ci (ts.drop q))+1:Nat):Int))->ADo R 0 0 0 (.ptr 0 0) (AG c) (AG q) ⟨[[AG k,SS n,AG i,a]],[]⟩ (QP Post):=by
 have Sj:=BS ts;intro j
 induction j with
 | zero=>
  intro q c hi hc hP;refine ADp ?_;have h1:¬ ((q:Int)<ts.length):=AA;simp[ha.BD,Ab,h1];refine APD ?_;have h2:ts.drop q=[]:=CA AA;rw[h2] at hP;simp only[Ci,Nat.max_zero] at hP;simp only[DI];refine⟨⟨Ai,Ai⟩,CS AA AA ?_⟩;exact⟨_,GX,AB⟩
 | succ j D9=>
  intro q c hi hc hP;refine ADp ?_;have h1:((q:Int)<ts.length):=AA;obtain⟨t,ht⟩:∃t,ts[q]?=some t:=⟨_,Ay AA⟩;have hd:=drop_cons ht;rw[hd] at hP;simp only[Ci] at hP;simp[ha.BD,Ab,h1];refine APE ?_;simp;refine BR ha (row:=Ah t) AA (by grind[BL]) (Aj t) AA ?_;have e3:=ih t (A5 ht);have e4:size t<=Ac ts:=F8 (A5 ht);have e5:=UJ t;obtain⟨k,n,x,es⟩:=t;simp only[Ah,CP,Cd] at e3;simp[Ah];refine AH e3 ?_;rintro v rfl;refine Xb (x:=.tmp 12) (y:=.tmp 18) (t:=#[3,3]) AR rfl rfl (APF ?_);simp only[DI];refine⟨⟨Ai,Ai⟩,CS AA AA ?_⟩;have:=D9 (q+1) (max c (depth (.mk k n x es))) AA AA AB
  grind
mutual
theorem R7:∀(t:Ty),size t<2 ^ 60->∀(x:AV),A8 t x->Ae (env R) 72 [x] λr=>r=AG (depth t)
 | .mk k n i ts,h,x,hx=>by
  obtain⟨a,rfl,ha⟩:=hx;simp only[size] at h;have ih:=Pn ts AA;refine e72 (u0:=.agg [AG k,SS n,AG i,a]) (by simp[ha.close]) (APG ?_);simp[ha.ok];refine cj ha AA ih ts.length 0 0 AA AA ?_;rfl
theorem Pn:∀(l:List Ty),Ac l<2 ^ 60->∀t∈l,Ae (env R) 72 [.agg ((Ah t).map .pv)] λr=>r=AG (depth t)
 | [],_,_,h=>by cases h
 | e::l,ho,a,h=>by
  simp only[Ac] at ho;rcases A3.1 h with h' | h'
  .rw[h']
   exact R7 e AA _ (A8.Bk e)
  .exact Pn l AA a h'
end
end
def ER (k:Int) (j:Nat):Nat:=bif k==6&&j==1 then 1 else 0
mutual
def CB (u:Nat):Ty->Bool
 | .mk k _ i ts=>bif k==5&&decide ((u:Int)<=i) then false else EF u k 0 ts
def EF (u:Nat) (k:Int) (j:Nat):List Ty->Bool
 | []=>true
 | t::l=>CB (u+ER k j) t&&EF u k (j+1) l
end
mutual
theorem Po:∀t:Ty,Mj (Ah t) (Ah t)=true
 | .mk k n i ts=>by simp[Ah,Mj,Ni,Fa,Ic,DU ts]
theorem DU:∀l:List Ty,JA (AZ l) (AZ l)=true
 | []=>by rfl
 | t::l=>by simp[AZ,JA,Po t,DU l]
end
theorem Q6 (k:Int) (j:Nat):ER k j<=1:=by grind[ER]
section
variable {R:Nat->Option (List PV)}
theorem L3 {k i:Int} {n:List UInt8} {a:AV} {rows:List (List PV)} (ha:A0 a rows) (j:Nat):Ae (env R) 119 [.agg [AG k,SS n,AG i,a],AG j] λr=>r=AG (ER k j):=by
 refine AZB (u0:=.agg [AG k,SS n,AG i,a]) (u1:=AG j) (by simp[ha.close]) (AHF ?_);have h2:(((j:Int))==1)=(j==1):=AB;cases h1:(k==6) with
 | false=>
  simp[-beq_iff_eq,ha.ok,h1];refine vK ?_;simp[*,QP,ER]
 | true=>
  cases h3:(j==1) with
  | false=>
   rw[h3] at h2;simp[-beq_iff_eq,ha.ok,h1,h2];refine vK ?_;simp[*,QP,ER]
  | true=>
   rw[h3] at h2;simp[-beq_iff_eq,QP,QI,ha.ok,h1,h2,ER,h3]
theorem Wo {k i:Int} {n:List UInt8} {a:AV} {rows:List (List PV)} (ha:A0 a rows) (j:Nat):Ae (env R) 151 [.agg [AG k,SS n,AG i,a],AG j] λr=>r=AG (ER k j):=by
 refine AZC (u0:=.agg [AG k,SS n,AG i,a]) (u1:=AG j) (by simp[ha.close]) (AHG ?_);have h2:(((j:Int))==1)=(j==1):=AB;cases h1:(k==6) with
 | false=>
  simp[-beq_iff_eq,ha.ok,h1];refine vL ?_;simp[*,QP,ER]
 | true=>
  cases h3:(j==1) with
  | false=>
   rw[h3] at h2;simp[-beq_iff_eq,ha.ok,h1,h2];refine vL ?_;simp[*,QP,ER]
  | true=>
   rw[h3] at h2;simp[-beq_iff_eq,QP,QI,ha.ok,h1,h2,ER,h3]
theorem cm {k i:Int} {n:List UInt8} {ts:List Ty} {a:AV} {u:Nat} (ha:A0 a (AZ ts)) (hl:Ac ts<2 ^ 60) (hu:u<2 ^ 60)
  (ih:∀t∈ts,∀v,v<=u+1->Ae (env R) 141 [.agg ((Ah t).map .pv),AG v] λr=>r=BB (CB v t)) {Post:AV->Prop} :
  ∀(j q:Nat) (m:List (List AV)),q+j=ts.length->Post (BB (EF u k q (ts.drop q)))->vM R 0 0 0 (AG u) (.ptr 0 0) a (AG ts.length) (AG q) ⟨[AG k,SS n,AG i,a]::m,[]⟩ (QP Post):=by
 have Sj:=BS ts;intro j
 induction j with
 | zero=>
  intro q m hi hP;refine vN ?_;have h1:¬ ((q:Int)<ts.length):=AA;simp[h1];refine AHH ?_
  simp_all[QP,EF]
 | succ j D9=>
  intro q m hi hP;refine vN ?_;have h1:((q:Int)<ts.length):=AA;obtain⟨t,ht⟩:∃t,ts[q]?=some t:=⟨_,Ay AA⟩;have hd:=drop_cons ht;rw[hd] at hP;simp only[EF] at hP;simp[h1];refine AHI ?_;refine BR ha (row:=Ah t) AA (by grind[BL]) (Aj t) AA ?_;have hb:=Q6 k q;have e3:=ih t (A5 ht) (u+ER k q) AA;obtain⟨k',n',x,es⟩:=t;simp only[Ah,CP,Cd] at e3;simp[Ah,TQ,UK,TR,UL];refine AH (L3 ha q) ?_;rintro v rfl;simp only[DI];refine⟨⟨Ai,Ai⟩,CS AA AA ?_⟩;have ec:(u:Int)+(ER k q:Int)=((u+ER k q:Nat):Int):=AA;rw[ec];refine AH e3 ?_;rintro v rfl;cases hc:CB (u+ER k q) (.mk k' n' x es) with
  | false=>
   rw[hc] at hP;simp[QP,QI,C1,Ij,Ni,Fa,Ic,DU]
   grind
  | true=>
   rw[hc] at hP;simp[C1,Ij,Ni,Fa,Ic,DU];refine AHJ ?_;simp only[DI];refine⟨⟨Ai,Ai⟩,CS AA AA ?_⟩;have:=D9 (q+1) (m++[[AG k',SS n',AG x,.pv (.list (AZ es))]]) AA (by simpa using hP);simpa using this
mutual
theorem My:∀(t:Ty),size t<2 ^ 60->∀(u:Nat),u+size t<2 ^ 60->∀(x:AV),A8 t x->Ae (env R) 141 [x,AG u] λr=>r=BB (CB u t)
 | .mk k n i ts,h,u,hu,x,hx=>by
  obtain⟨a,rfl,ha⟩:=hx;simp only[size] at h hu;have ih:=Pr ts AA (u+1) AA
  suffices H:∀Post:AV->Prop,Post (BB (CB u (.mk k n i ts)))->vO R 0 0 0 (.agg [AG k,SS n,AG i,a]) (AG u) ⟨[],[]⟩ (QP Post) from
   AZD (u0:=.agg [AG k,SS n,AG i,a]) (u1:=AG u) (by simp[ha.close]) (H _ rfl)
  intro Post Gq;refine AHK ?_;simp only[CB] at Gq
  have go:Post (BB (EF u k 0 ts))->vQ R 0 0 0 (AG u) (.ptr 0 0) ⟨[[AG k,SS n,AG i,a]],[]⟩ (QP Post):=by
   intro hP;refine AHL ?_;simp[ha.BD,Ab];exact cm (m:=[]) ha AA AA ih ts.length 0 AA AB
  cases h1:(k==5) with
  | false=>
   rw[h1] at Gq;simp[-beq_iff_eq,ha.ok,h1]
   grind
  | true=>
   rw[h1] at Gq;cases h2:decide ((u:Int)<=i) with
   | true=>
    rw[h2] at Gq;simpa[-beq_iff_eq,-decide_eq_true_eq,QP,QI,ha.ok,h1,h2] using Gq
   | false=>
    rw[h2] at Gq;simp[-beq_iff_eq,-decide_eq_false_iff_not,ha.ok,h1,h2]
    grind
theorem Pr:∀(l:List Ty),Ac l<2 ^ 60->∀(w:Nat),w+Ac l<2 ^ 60->∀t∈l,∀v,v<=w->Ae (env R) 141 [.agg ((Ah t).map .pv),AG v] λr=>r=BB (CB v t)
 | [],_,_,_,_,h=>by cases h
 | e::l,ho,w,hw,a,h=>by
  simp only[Ac] at ho hw;rcases A3.1 h with h' | h'
  .rw[h']
   exact λv hv=>My e AA v AA _ (A8.Bk e)
  .exact Pr l AA w AA a h'
end
end
theorem Iq {l:List Int} {i:Nat} {n:Int} (h:l[i]?=some n):(Ad l)[i]?=some [.sc (.int .i64 n)]:=by grind[Ad]
theorem vR {a:AV} {ts:List Ty} (h:A0 a (AZ ts)):C1 a a=true:=by
 rcases h with rfl|rfl <;> simp[C1,Ni,DU]
theorem L4:∀l:List Int,JA (Ad l) (Ad l)=true
 | []=>by rfl
 | t::l=>by
  have:=L4 l
  grind[Ad,JA,Mj,Ni,Fa]
section
variable {R:Nat->Option (List PV)}
theorem cq {l:List Int} {x:AV} (hx:A0 x (Ad l)) (hl:l.length<2 ^ 40) (v:Int) {Post:AV->Prop} (hP:∀r m,A0 r (Ad m)->m≠[]->m.length<=l.length+1->Post r) (q:Nat) (hq:q<=l.length) :
  vS R 0 0 0 x (AG v) (AG q) ⟨[],[]⟩ (QP Post):=by
 refine AHM ?_;have hlen:(Ad l).length=l.length:=BU l;have hall:((Ad l).all λr=>r.length==1)=true:=by grind[Da]
 have slc:∀(lo hi:Option AV) (a b:Nat) (s:AQ) (K:AV->Prop),Fz 0 lo=some a->Fz l.length hi=some b->a<=b->b<=l.length->K (.pv (.list (((Ad l).take b).drop a)))->rJ s 1 x lo hi none K:=by
  intro lo hi a b s K h1 h2 h3 h4 hK;have hr:=hx.rowsOf;rcases hx with rfl|rfl
  .simp only[rJ,hr,wO,hlen]
   exact⟨a,b,h1,h2,⟨h3,h4,hall⟩,hK⟩
  .simp only[rJ,hr,wO,hlen]
   exact⟨a,b,h1,h2,⟨h3,h4,hall⟩,hK⟩
 have hq1:Fz 0 (some (AG q))=some q:=AR;have hq2:Fz l.length (some (AG q))=some q:=AR;have e0:((Ad l).take q).drop 0=Ad (l.take q):=by simp[*,Ad]
 have e1:((Ad l).take l.length).drop q=Ad (l.drop q):=by grind[Ad,List.map_drop]
 simp[GY,Fx,Ew,wO,CD,CJ];refine slc none (some (AG q)) 0 q _ _ rfl hq2 AA hq ?_;rw[e0];have hL:∀(m:List Int),m.length=(Ad m).length:=λm=>(BU m).symm
 refine Q7 (ts:=[]) (x:=[]) (rows:=[]) (m:=Ad (l.take q)) (.inl rfl) AD AD Da AA (C9 (.inl (.list _)) Da) Oc AB AB ?_;intro a1 x1 ha1;simp[GY,Fx,Ew,wO,CD,CJ,setCells];refine Q7 (ts:=[]) (m:=Ad [v]) ha1 AD AB Da AA (C9 (.inl (.AE _)) Da) Oc AB AB ?_;intro a2 x2 UO;refine slc (some (AG q)) none q l.length _ _ hq1 rfl hq AA ?_;rw[e1];have e2:[]++Ad (l.take q)++Ad [v]=Ad (l.take q++[v]):=by simp[Ad]
 rw[e2] at UO;refine Q7 (ts:=[]) (m:=Ad (l.drop q)) UO AD Da Da AA (C9 (.inl (.list _)) Da) Oc AB AB ?_;intro a3 x3 ha3;have e3:Ad (l.take q++[v])++Ad (l.drop q)=Ad (l.take q++[v]++l.drop q):=by simp[Ad]
 rw[e3] at ha3;refine⟨?_,?_,?_⟩
 .refine slc (some (AG q)) none q l.length _ _ hq1 rfl hq AA ?_
  grind[C1,Ni,L4]
 .refine slc (some (AG q)) none q l.length _ _ hq1 rfl hq AA ?_
  grind[C1,Ni,L4]
 .obtain⟨v',h1,h2⟩:=ha3.A4.closed ([]:List (List AV)) 0
  exact⟨v',h1,hP _ _ h2 AD AB⟩
theorem cr {l:List Int} {x:AV} (hx:A0 x (Ad l)) (hl:l.length<2 ^ 40) (v:Int) {Post:AV->Prop} (hP:∀r m,A0 r (Ad m)->m≠[]->m.length<=l.length+1->Post r) (q:Nat) (hq:q<=l.length) :
  vT R 0 0 0 x (AG v) (AG q) ⟨[],[]⟩ (QP Post):=by
 refine AHN ?_;have hlen:(Ad l).length=l.length:=BU l
 by_cases h:q<l.length
 .have h1:((q:Int)<l.length):=by omega
  obtain⟨t,ht⟩:∃t,l[q]?=some t:=⟨_,Ay AA⟩;simp[hx.BD,hlen,h1];refine BR hx (row:=[.sc (.int .i64 t)]) AA (by grind[Iq]) rfl AA ?_;simp;refine⟨λ_=>?_,λ_=>cq hx hl v hP q hq⟩;simp[QP,QI,hx.close]
  grind
 .have h1:¬ ((q:Int)<l.length):=by omega
  simp[hx.BD,hlen,h1]
  grind[cq]
theorem rK {l:List Int} {x:AV} (hx:A0 x (Ad l)) (hl:l.length<2 ^ 40) (v:Int) {Post:AV->Prop} (hP:∀r m,A0 r (Ad m)->m≠[]->m.length<=l.length+1->Post r) :
  ∀(j q:Nat),q+j=l.length->vU R 0 0 0 x (AG v) (AG q) ⟨[],[]⟩ (QP Post):=by
 have hlen:(Ad l).length=l.length:=BU l;intro j
 induction j with
 | zero=>
  intro q hq;refine vV ?_;have h1:¬ ((q:Int)<l.length):=AA;simp[hx.BD,hlen,h1]
  grind[cr]
 | succ j ih=>
  intro q hq;refine vV ?_;have h1:((q:Int)<l.length):=AA;obtain⟨t,ht⟩:∃t,l[q]?=some t:=⟨_,Ay AA⟩;simp[hx.BD,hlen,h1];refine BR hx (row:=[.sc (.int .i64 t)]) AA (by simp[*,Iq]) rfl AA ?_;simp;refine⟨λ_=>?_,λ_=>cr hx hl v hP q AA⟩;refine AHO ?_;simp only[DI];refine⟨⟨Ai,Ai⟩,CS AA AA ?_⟩;have:=ih (q+1) AA
  grind
theorem UP {l:List Int} {x:AV} (hx:A0 x (Ad l)) (hl:l.length<2 ^ 40) (v:Int):Ae (env R) 150 [x,AG v] λr=>∃m,A0 r (Ad m)/\m≠[]/\m.length<=l.length+1:=by
 refine AZE (u0:=x) (u1:=AG v) (by simp[hx.close]) (AHP ?_);exact rK hx hl v (λr m h1 h2 h3=>⟨m,h1,h2,h3⟩) l.length 0 AA
theorem Q8 {k i:Int} {n:List UInt8} {ts:List Ty} {a:AV} {u:Nat} (ha:A0 a (AZ ts)) (hl:Ac ts<2 ^ 39) (hu:u<2 ^ 60)
  (ih:∀t∈ts,∀v,v<=u+1->∀(l:List Int) (y:AV),A0 y (Ad l)->l.length+size t<2 ^ 40 ->
   Ae (env R) 126 [.agg ((Ah t).map .pv),AG v,y] λr=>∃m,A0 r (Ad m)/\(m=[]<->l=[]/\CB v t=true)/\m.length<=l.length+size t) {Post:AV->Prop} :
  ∀(j q:Nat) (l:List Int) (y:AV),A0 y (Ad l)->l.length+Ac (ts.drop q)<2 ^ 40->q+j=ts.length ->
   (∀r m,A0 r (Ad m)->(m=[]<->l=[]/\EF u k q (ts.drop q)=true)->m.length<=l.length+Ac (ts.drop q)->Post r) ->
   vW R 0 0 0 (AG u) y (.ptr 0 0) (AG q) ⟨[[AG k,SS n,AG i,a]],[]⟩ (QP Post):=by
 have Sj:=BS ts;intro j
 induction j with
 | zero=>
  intro q l y hy hc hi hP;refine vX ?_;have h1:¬ ((q:Int)<ts.length):=AA;simp[ha.BD,Ab,h1];refine AHQ ?_;have h2:ts.drop q=[]:=CA AA;rw[h2] at hP;exact⟨y,hy.close _ _ _,hP y l hy (by simp[EF]) AD⟩
 | succ j D9=>
  intro q l y hy hc hi hP;refine vX ?_;have h1:((q:Int)<ts.length):=AA;obtain⟨t,ht⟩:∃t,ts[q]?=some t:=⟨_,Ay AA⟩;have hd:=drop_cons ht;rw[hd] at hP hc;simp only[EF,Ac] at hP hc;simp[ha.BD,Ab,h1];refine AHR ?_;simp;refine BR ha (row:=Ah t) AA (by grind[BL]) (Aj t) AA ?_;have hb:=Q6 k q;have e3:=ih t (A5 ht) (u+ER k q) AA l y hy AA;have hrow:=BL ht;obtain⟨k',n',x,es⟩:=t;simp only[Ah,CP,Cd] at e3 hrow;simp[Ah];refine AH (Wo ha q) ?_;rintro v rfl;simp only[DI];refine⟨⟨Ai,Ai⟩,CS AA AA ?_⟩;have ec:(u:Int)+(ER k q:Int)=((u+ER k q:Nat):Int):=AA;rw[ec];refine AH e3 ?_;rintro v ⟨m,hm,hmi,hml⟩;simp[C1,vR ha,Ij,Ni,Mj,Fa,Ic,DU];refine⟨BR ha AA Ba AD AA (by simp[*,C1,Ni,Mj,Fa,Ic,DU]),AHS ?_⟩;simp only[DI];refine⟨⟨Ai,Ai⟩,CS AA AA ?_⟩;have:=D9 (q+1) m v hm AA AA AB
  grind
mutual
theorem free_spec:∀(t:Ty),size t<2 ^ 39->∀(u:Nat),u+size t<2 ^ 60->∀(x:AV),A8 t x->∀(l:List Int) (y:AV),A0 y (Ad l)->l.length+size t<2 ^ 40 ->
  Ae (env R) 126 [x,AG u,y] λr=>∃m,A0 r (Ad m)/\(m=[]<->l=[]/\CB u t=true)/\m.length<=l.length+size t
 | .mk k n i ts,h,u,hu,x,hx,l,y,hy,hl=>by
  obtain⟨a,rfl,ha⟩:=hx;simp only[size] at h hu hl;have ih:=UQ ts AA (u+1) AA
  suffices H:∀Post:AV->Prop,(∀r m,A0 r (Ad m)->(m=[]<->l=[]/\CB u (.mk k n i ts)=true)->m.length<=l.length+size (.mk k n i ts)->Post r)->vY R 0 0 0 (.agg [AG k,SS n,AG i,a]) (AG u) y ⟨[],[]⟩ (QP Post) from
   AZF (u0:=.agg [AG k,SS n,AG i,a]) (u1:=AG u) (u2:=y) (by simp[ha.close,hy.close]) (H _ λr m h1 h2 h3=>⟨m,h1,h2,h3⟩)
  intro Post Gq;refine AHT ?_;simp only[CB,size] at Gq;cases h1:(k==5) with
  | false=>
   rw[h1] at Gq;simp[-beq_iff_eq,ha.ok,h1];refine jJ ?_;exact Q8 ha AA AA ih ts.length 0 l y hy AB AA (λr m a b c=>Gq r m a AB AB)
  | true=>
   rw[h1] at Gq;cases h2:decide ((u:Int)<=i) with
   | true=>
    rw[h2] at Gq;simp[-beq_iff_eq,-decide_eq_true_eq,ha.ok,h1,h2,jK];refine AH (UP hy AA _) ?_;rintro v ⟨m,hm,hne,hml⟩;refine jJ ?_;refine Q8 ha AA AA ih ts.length 0 m v hm AB AA (λr m' a b c=>Gq r m' a ?_ AB)
    grind
   | false=>
    rw[h2] at Gq;simp[-beq_iff_eq,-decide_eq_false_iff_not,ha.ok,h1,h2];refine jJ ?_;exact Q8 ha AA AA ih ts.length 0 l y hy AB AA (λr m a b c=>Gq r m a AB AB)
theorem UQ:∀(l:List Ty),Ac l<2 ^ 39->∀(w:Nat),w+Ac l<2 ^ 60->∀t∈l,∀v,v<=w->∀(z:List Int) (y:AV),A0 y (Ad z)->z.length+size t<2 ^ 40 ->
   Ae (env R) 126 [.agg ((Ah t).map .pv),AG v,y] λr=>∃m,A0 r (Ad m)/\(m=[]<->z=[]/\CB v t=true)/\m.length<=z.length+size t
 | [],_,_,_,_,h=>by cases h
 | e::l,ho,w,hw,a,h=>by
  simp only[Ac] at ho hw;rcases A3.1 h with h' | h'
  .rw[h']
   exact λv hv z y hy hz=>free_spec e AA v AA _ (A8.Bk e) z y hy hz
  .exact UQ l AA w AA a h'
end
theorem G1 {t:Ty} (h:size t<2 ^ 38) {x:AV} (hx:A8 t x):Ae (env R) 48 [x] λr=>r=BB (CB 0 t):=by
 obtain⟨k,n,i,ts⟩:=t;obtain⟨a,rfl,ha⟩:=hx;refine e48 (u0:=.agg [AG k,SS n,AG i,a]) (by simp[ha.close]) (APH ?_);simp[ha.ok]
 have AZG:Ae (env R) 96 [.agg [AG k,SS n,AG i,a]] λr=>∃m,A0 r (Ad m)/\(m=[]<->CB 0 (.mk k n i ts)=true):=by
  refine e96 (u0:=.agg [AG k,SS n,AG i,a]) (by simp[ha.close]) (API ?_);simp[ha.ok];refine AH (free_spec (.mk k n i ts) AA 0 AA _ ⟨a,rfl,ha⟩ [] (.AE []) (.AE []) AB) ?_;rintro v ⟨m,hm,hmi,_⟩;exact⟨v,hm.close _ _ _,m,hm,AB⟩
 refine AH AZG ?_;rintro v ⟨m,hm,hmi⟩;simp[QP,QI,hm.BD,BU];cases hc:CB 0 (.mk k n i ts) with
 | true=>
  grind
 | false=>
  simp[*]
end
mutual
def plain:Ty->Bool
 | .mk k n i ts=>k==5||CB 0 (.mk k n i ts)||(k==2&&EX ts)
def EX:List Ty->Bool
 | []=>true
 | t::l=>plain t&&EX l
end
section
variable {R:Nat->Option (List PV)}
theorem vZ {f:FuncId} {g:Ty->Bool} {ts:List Ty} {y:AV} (hy:A0 y (AZ ts)) (hl:Ac ts<2 ^ 60) (hf:∀t∈ts,Ae (env R) f [.agg ((Ah t).map .pv)] λr=>r=BB (g t)) {Post:AV->Prop} :
  ∀(j q:Nat),q+j=ts.length->(∀i:Int,decide (0<=i)=(ts.drop q).any g->Post (AG i))->Zt R 0 0 0 y (.func (.func f) [] []) (AG ts.length) (AG q) ⟨[],[]⟩ (QP Post):=by
 have Sj:=BS ts;intro j
 induction j with
 | zero=>
  intro q hi hP;refine Q9 ?_;have h1:¬ ((q:Int)<ts.length):=AA;simp[h1];refine jL ?_
  simp_all[QP]
 | succ j D9=>
  intro q hi hP;refine Q9 ?_;have h1:((q:Int)<ts.length):=AA;obtain⟨t,ht⟩:∃t,ts[q]?=some t:=⟨_,Ay AA⟩;have hd:=drop_cons ht;rw[hd] at hP;simp[h1];refine jM ?_;refine BR hy (row:=Ah t) AA (by simp[*,BL]) (Aj t) AA ?_;have e3:=hf t (A5 ht);cases hg:g t with
  | true=>
   rw[hg] at e3;have:=hP q AB;obtain⟨k',n',x,es⟩:=t;simp only[Ah,CP,Cd] at e3;simp[Ah];refine AH e3 ?_;simp[*,QP]
  | false=>
   rw[hg] at e3;simp only[PI,hg,GL] at hP;obtain⟨k',n',x,es⟩:=t;simp only[Ah,CP,Cd] at e3;simp[Ah];refine AH e3 ?_;rintro v rfl;simp;refine jN ?_;simp only[DI];refine⟨⟨Ai,Ai⟩,CS AA AA ?_⟩;have:=D9 (q+1) AA hP;simpa using this
theorem OH {f:FuncId} {g:Ty->Bool} {ts:List Ty} {y:AV} (hy:A0 y (AZ ts)) (hl:Ac ts<2 ^ 60) (hf:∀t∈ts,Ae (env R) f [.agg ((Ah t).map .pv)] λr=>r=BB (g t)) :
  Ae (env R) 94 [y,.func (.func f) [] []] λr=>r=BB (ts.any g):=by
 have hi:Ae (env R) 125 [y,.func (.func f) [] []] λr=>∃i:Int,r=AG i/\decide (0<=i)=ts.any g:=by
  refine APJ (by simp[C7,hy.FR,FR]) (Zu ?_);simp[hy.BD,Ab];exact vZ hy hl hf ts.length 0 AA (λi h=>⟨i,rfl,AB⟩)
 refine e94 (by simp[C7,hy.FR,FR]) (mE ?_);refine AH hi ?_;rintro v ⟨i,rfl,h⟩;simp only[DI];refine⟨⟨Ai,Ai⟩,_,GX,?_⟩;rw[<-h]
mutual
theorem Zv:∀(t:Ty),size t<2 ^ 38->∀(x:AV),A8 t x->Ae (env R) 161 [x] λr=>r=BB (plain t)
 | .mk k n i ts,h,x,hx=>by
  obtain⟨a,rfl,ha⟩:=hx;have hs:=h;simp only[size] at h;have ih:=Mz k n i ts AA a ha;have hc:Ae (env R) 141 [.agg [AG k,SS n,AG i,a],AG 0] λr=>r=BB (CB 0 (.mk k n i ts)):=My (.mk k n i ts) AA 0 AA _ ⟨a,rfl,ha⟩
  refine AZH (u0:=.agg [AG k,SS n,AG i,a]) (by simp[ha.close]) (AHU ?_);cases h1:(k==5) with
  | true=>simp[-beq_iff_eq,QP,QI,ha.ok,h1,plain]
  | false=>
   simp[-beq_iff_eq,ha.ok,h1];refine AH hc ?_;rintro v rfl;cases h2:CB 0 (.mk k n i ts) with
   | true=>simp[*,QP,plain]
   | false=>
    cases h3:(k==2) with
    | false=>simp[*,QP,plain]
    | true=>
     have e2:k=2:=AB;subst e2;simp;refine AH ih ?_;simp[*,QP,plain]
theorem Mz (k:Int) (n:List UInt8) (i:Int):∀(ts:List Ty),Ac ts<2 ^ 38->∀(a:AV),A0 a (AZ ts)->Ae (env R) 140 [.agg [AG k,SS n,AG i,a]] λr=>r=BB (EX ts)
 | ts,h,a,ha=>by
  have ih:=R8 ts h;refine AZI (u0:=.agg [AG k,SS n,AG i,a]) (by simp[ha.close]) (AHV ?_);simp[ha.ok]
  have hf:∀t∈ts,Ae (env R) 160 [.agg ((Ah t).map .pv)] λr=>r=BB (!plain t):=by
   intro t ht;have e:=ih t ht;refine AZJ (by cases t; rfl) (AHW ?_);obtain⟨k',n',x,es⟩:=t;simp only[Ah,CP,Cd] at e;simp[Ah];refine AH e ?_;simp[*,QP]
  refine AH (OH ha AA hf) ?_;rintro v rfl
  have:(!ts.any λt=>!plain t)=EX ts:=by
   clear ih hf ha h
   induction ts with
   | nil=>rfl
   | cons t l ih=>grind[EX]
  simp[*,QP]
theorem R8:∀(l:List Ty),Ac l<2 ^ 38->∀t∈l,Ae (env R) 161 [.agg ((Ah t).map .pv)] λr=>r=BB (plain t)
 | [],_,_,h=>by cases h
 | e::l,ho,a,h=>by
  simp only[Ac] at ho;rcases A3.1 h with h' | h'
  .rw[h']
   exact Zv e AA _ (A8.Bk e)
  .exact R8 l AA a h'
end
theorem cu {k i:Int} {n:List UInt8} {ts:List Ty} {a:AV} (ha:A0 a (AZ ts)) (hl:Ac ts<2 ^ 38) (ih:∀t∈ts,Ae (env R) 110 [.agg ((Ah t).map .pv)] λr=>r=BB (plain t)) {Post:AV->Prop} :
  ∀(j q:Nat),q+j=ts.length->Post (BB (k==2&&EX (ts.drop q)))->ve R 0 0 0 (.ptr 0 0) (AG q) ⟨[[AG k,SS n,AG i,a]],[]⟩ (QP Post):=by
 have Sj:=BS ts;intro j
 induction j with
 | zero=>
  intro q hi hP;refine vg ?_;have h1:¬ ((q:Int)<ts.length):=AA;simp[ha.BD,Ab,h1];refine AHX ?_
  simp_all[QP,EX]
 | succ j D9=>
  intro q hi hP;refine vg ?_;have h1:((q:Int)<ts.length):=AA;obtain⟨t,ht⟩:∃t,ts[q]?=some t:=⟨_,Ay AA⟩;have hd:=drop_cons ht;rw[hd] at hP;simp only[EX] at hP;simp[ha.BD,Ab,h1];refine AHY ?_;simp;refine BR ha (row:=Ah t) AA (by simp[*,BL]) (Aj t) AA ?_;have e3:=ih t (A5 ht);have hr:=Aj t;cases hg:plain t with
  | true=>
   rw[hg] at e3 hP;obtain⟨k',n',x,es⟩:=t;simp only[Ah,CP,Cd] at e3;simp[Ah];refine AH e3 ?_;rintro v rfl;simp;refine AHZ ?_;simp only[DI];refine⟨⟨Ai,Ai⟩,CS AA AA ?_⟩;have:=D9 (q+1) AA (by simpa using hP);simpa using this
  | false=>
   rw[hg] at e3 hP;obtain⟨k',n',x,es⟩:=t;simp only[Ah,CP,Cd] at e3;simp[Ah];refine AH e3 ?_
   simp_all[QP]
mutual
theorem cw:∀(t:Ty),size t<2 ^ 38->∀(x:AV),A8 t x->Ae (env R) 110 [x] λr=>r=BB (plain t)
 | .mk k n i ts,h,x,hx=>by
  obtain⟨a,rfl,ha⟩:=hx;have hs:=h;simp only[size] at h;have ih:=L5 ts AA;have hc:Ae (env R) 48 [.agg [AG k,SS n,AG i,a]] λr=>r=BB (CB 0 (.mk k n i ts)):=G1 hs ⟨a,rfl,ha⟩
  suffices H:∀Post:AV->Prop,Post (BB (plain (.mk k n i ts)))->vh R 0 0 0 (.agg [AG k,SS n,AG i,a]) ⟨[],[]⟩ (QP Post) from
   AZK (u0:=.agg [AG k,SS n,AG i,a]) (by simp[ha.close]) (H _ rfl)
  intro Post Gq;refine AHa ?_;simp only[plain] at Gq;cases h1:(k==5) with
  | true=>
   rw[h1] at Gq;simpa[-beq_iff_eq,QP,QI,ha.ok,h1] using Gq
  | false=>
   rw[h1] at Gq;simp[-beq_iff_eq,ha.ok,h1];refine AH hc ?_;rintro v rfl;cases h2:CB 0 (.mk k n i ts) with
   | true=>
    simp_all[QP]
   | false=>
    rw[h2] at Gq;simp[-beq_iff_eq];refine AHb ?_;exact cu ha AA ih ts.length 0 AA AB
theorem L5:∀(l:List Ty),Ac l<2 ^ 38->∀t∈l,Ae (env R) 110 [.agg ((Ah t).map .pv)] λr=>r=BB (plain t)
 | [],_,_,h=>by cases h
 | e::l,ho,a,h=>by
  simp only[Ac] at ho;rcases A3.1 h with h' | h'
  .rw[h']
   exact cw e AA _ (A8.Bk e)
  .exact L5 l AA a h'
end
end
def isLet (n:Int):Bool:=(decide (97<=n)&&decide (n<=122))||(decide (65<=n)&&decide (n<=90))
def UR (n:Int):Bool:=decide (48<=n)&&decide (n<=57)
def RA (n:Int):Bool:=isLet n||UR n||n==95||n==45
abbrev BY (n:Int):AV:=.pv (.sc (.int .u8 n))
def M0 (l:List UInt8):Bool:=l != []&&decide (l.length<=24)&&(match l with|[]=>false|c::_=>isLet c.toNat)&&l.all λc=>!((c.toNat:Int)==45)&&RA c.toNat
def MX:List (List UInt8):=[[65,110,121],[78,101,118,101,114],[116,117,112,108,101],[117,110,105,111,110],[101,120,105,115,116,115]]
section
variable {R:Nat->Option (List PV)}
theorem R9 (n:Int):Ae (env R) 155 [BY n] λr=>r=BB (isLet n):=by
 refine AZL rfl (AHc ?_)
 by_cases h1:97<=n <;> by_cases h2:n<=122 <;> by_cases h3:65<=n <;> by_cases h4:n<=90 <;> simp[QP,QI,isLet,h1,h2,h3,h4]
theorem Pt (n:Int):Ae (env R) 135 [BY n] λr=>r=BB (isLet n):=by
 refine AZM rfl (AHd ?_)
 by_cases h1:97<=n <;> by_cases h2:n<=122 <;> by_cases h3:65<=n <;> by_cases h4:n<=90 <;> simp[QP,QI,isLet,h1,h2,h3,h4]
theorem jO (n:Int):Ae (env R) 173 [BY n] λr=>r=BB (UR n):=by
 refine AZN rfl (AHe ?_)
 by_cases h1:48<=n <;> by_cases h2:n<=57 <;> simp[QP,QI,UR,h1,h2]
theorem cx (n:Int):Ae (env R) 154 [BY n] λr=>r=BB (UR n):=by
 refine AZO rfl (AHf ?_)
 by_cases h1:48<=n <;> by_cases h2:n<=57 <;> simp[QP,QI,UR,h1,h2]
theorem Wq (n:Int):Ae (env R) 158 [BY n] λr=>r=BB (RA n):=by
 refine AZP rfl (AHg ?_);refine AH (R9 n) ?_;rintro v rfl;cases h1:isLet n with
 | true=>simp[QP,QI,RA,h1]
 | false=>
  simp;refine AH (jO n) ?_;rintro v rfl;cases h2:UR n with
  | true=>simp[QP,QI,RA,h2]
  | false=>cases h3:(n==95) <;> cases h4:(n==45) <;> simp[-beq_iff_eq,-beq_eq_false_iff_ne,QP,QI,RA,h1,h2,h3,h4]
theorem US (n:Int):Ae (env R) 136 [BY n] λr=>r=BB (RA n):=by
 refine AZQ rfl (AHh ?_);refine AH (Pt n) ?_;rintro v rfl;cases h1:isLet n with
 | true=>simp[QP,QI,RA,h1]
 | false=>
  simp;refine AH (cx n) ?_;rintro v rfl;cases h2:UR n with
  | true=>simp[QP,QI,RA,h2]
  | false=>cases h3:(n==95) <;> cases h4:(n==45) <;> simp[-beq_iff_eq,-beq_eq_false_iff_ne,QP,QI,RA,h1,h2,h3,h4]
theorem UT (n:Int):Ae (env R) 157 [BY n] λr=>r=BB (!(n==45)&&RA n):=by
 refine AZR rfl (AHi ?_);cases h:(n==45) with
 | true=>simp[-beq_iff_eq,-beq_eq_false_iff_ne,QP,QI,h,bne]
 | false=>
  simp[-beq_iff_eq,-beq_eq_false_iff_ne,h,bne];refine AH (Wq n) ?_;rintro v rfl;simp[-beq_iff_eq,-beq_eq_false_iff_ne,QP,QI]
theorem jP {f:FuncId} {g:Int->Bool} {l:List UInt8} (hl:l.length<2 ^ 60) (hf:∀n:Int,Ae (env R) f [BY n] λr=>r=BB (g n)) {Post:AV->Prop} :
  ∀(j q:Nat),q+j=l.length->Post (BB ((l.drop q).all λc=>g c.toNat))->vk R 0 0 0 (SS l) (.func (.func f) [] []) (AG q) ⟨[],[]⟩ (QP Post):=by
 intro j
 induction j with
 | zero=>
  intro q hi hP;refine vn ?_;have h1:¬ ((q:Int)<l.length):=AA;simp[h1];refine AHj ?_;have h2:l.drop q=[]:=CA AA;rw[h2] at hP;simpa[QP,QI] using hP
 | succ j D9=>
  intro q hi hP;refine vn ?_;have h1:((q:Int)<l.length):=AA;obtain⟨c,hc⟩:∃c,l[q]?=some c:=⟨_,Ay AA⟩;rw[drop_cons hc] at hP;simp[h1];refine AHk ?_;refine⟨AA,c,by simpa using hc,?_⟩;refine AH (hf c.toNat) ?_;rintro v rfl;cases hg:g c.toNat with
  | true=>
   rw[Gz,hg] at hP;simp;refine AHl ?_;simp only[DI];refine⟨⟨Ai,Ai⟩,CS AA AA ?_⟩;have:=D9 (q+1) AA (by simpa using hP);simpa using this
  | false=>
   rw[Gz,hg] at hP;simpa[QP,QI] using hP
theorem Zw {l:List UInt8} (hl:l.length<2 ^ 60):Ae (env R) 138 [SS l] λr=>r=BB (M0 l):=by
 have ev:Ae (env R) 156 [SS l,.func (.func 157) [] []] λr=>r=BB (l.all λc=>!((c.toNat:Int)==45)&&RA c.toNat):=by
  refine AZS (u0:=SS l) (u1:=.func (.func 157) [] []) AD (AHm ?_);exact jP hl UT l.length 0 AA AD
 refine AZT (u0:=SS l) AD (AHn ?_);cases l with
 | nil=>simp[QP,QI,M0]
 | cons c l=>
  by_cases h1:(c::l).length<=24
  .have bV:(((c::l).length:Nat):Int)<=24:=by omega
   have jQ:((l.length:Int)+1<=24):=by simpa using bV
   simp[jQ,Xc];refine AH (R9 c.toNat) ?_;rintro v rfl;cases h2:isLet c.toNat with
   | false=>simp[QP,QI,M0,h2]
   | true=>
    simp;refine AH ev ?_;rintro v rfl;have:l.length+1<=24:=by simpa using h1
    simp[QP,QI,M0,h2,this]
  .have jQ:¬ ((l.length:Int)+1<=24):=by simp at h1; omega
   have:¬ (l.length+1<=24):=by simpa using h1
   simp[QP,QI,jQ,M0,this]
theorem cy {l:List UInt8} (hl:l.length<2 ^ 60) {Post:AV->Prop} :
  ∀(j q:Nat),q+j=l.length->Post (BB ((l.drop q).all λc=>!((c.toNat:Int)==45)&&RA c.toNat))->vo R 0 0 0 (SS l) (AG q) ⟨[],[]⟩ (QP Post):=by
 intro j
 induction j with
 | zero=>
  intro q hi hP;refine vp ?_;have h1:¬ ((q:Int)<l.length):=AA;simp[h1];refine AHo ?_;have h2:l.drop q=[]:=CA AA;rw[h2] at hP;simpa[QP,QI] using hP
 | succ j D9=>
  intro q hi hP;refine vp ?_;have h1:((q:Int)<l.length):=AA;obtain⟨c,hc⟩:∃c,l[q]?=some c:=⟨_,Ay AA⟩;rw[drop_cons hc] at hP;simp[h1];refine AHp ?_;refine⟨AA,c,by simpa using hc,?_⟩;refine AH (US c.toNat) ?_;rintro v rfl;cases hg:RA c.toNat with
  | false=>
   rw[Gz,hg,Bool.and_false,Gv] at hP;simpa[QP,QI] using hP
  | true=>
   rw[Gz,hg,JJ] at hP;simp;refine⟨AA,c,by simpa using hc,?_⟩
   by_cases h45:((c.toNat:Int)=45)
   .have AHq:((c.toNat:Int)==45)=true:=by simpa using h45
    rw[AHq,NY,Gv] at hP;simp[QP,QI];exact⟨λ_=>hP,λh=>absurd h45 h⟩
   .have AHq:((c.toNat:Int)==45)=false:=by simpa using h45
    rw[AHq,PG,CY] at hP;simp;refine⟨λh=>absurd h h45,λ_=>AHr ?_⟩;simp only[DI];refine⟨⟨Ai,Ai⟩,CS AA AA ?_⟩;have:=D9 (q+1) AA (by simpa using hP);simpa using this
theorem cz {l:List UInt8} (hl:l.length<2 ^ 60):Ae (env R) 108 [SS l] λr=>r=BB (M0 l):=by
 refine AZU (u0:=SS l) AD (AHs ?_);cases l with
 | nil=>simp[QP,QI,M0]
 | cons c l=>
  have h0:¬ ((l.length:Int)+1<1):=AA
  by_cases h1:l.length+1<=24
  .have jQ:¬ (24<(l.length:Int)+1):=by omega
   simp[h0,jQ,Xc];refine AH (Pt c.toNat) ?_;rintro v rfl;cases h2:isLet c.toNat with
   | false=>simp[QP,QI,M0,h2]
   | true=>
    simp;refine AHt ?_;refine cy hl (c::l).length 0 AA ?_;simp[M0,h2,h1]
  .have jQ:(24<(l.length:Int)+1):=by omega
   simp[QP,QI,h0,jQ,M0,h1]
theorem Zx {l:List UInt8}:Ae (env R) 109 [SS l] λr=>r=BB (MX.contains l):=by
 refine AZV (u0:=SS l) AD (AHu ?_)
 by_cases h1:l=[65,110,121]
 .subst h1; simp[QP,QI,MX]
 by_cases h2:l=[78,101,118,101,114]
 .subst h2; simp[QP,QI,MX]
 by_cases h3:l=[116,117,112,108,101]
 .subst h3; simp[QP,QI,MX]
 by_cases h4:l=[117,110,105,111,110]
 .subst h4; simp[QP,QI,MX]
 by_cases h5:l=[101,120,105,115,116,115]
 .subst h5; simp[QP,QI,MX]
 have b1:(l==[65,110,121])=false:=by simpa using h1
 have b2:(l==[78,101,118,101,114])=false:=by simpa using h2
 have b3:(l==[116,117,112,108,101])=false:=by simpa using h3
 have b4:(l==[117,110,105,111,110])=false:=by simpa using h4
 have b5:(l==[101,120,105,115,116,115])=false:=by simpa using h5
 have b:MX.contains l=false:=by simp[MX,h1,h2,h3,h4,h5]
 simp[-beq_iff_eq,-beq_eq_false_iff_ne,-List.contains_eq_mem,QP,QI,b,b1,b2,b3,b4,b5]
def E3 (l:List (List UInt8)):List (List PV):=l.map λs=>[.sc (.string ⟨s.toArray⟩)]
theorem c8 (l:List (List UInt8)):(E3 l).length=l.length:=by simp[E3]
theorem c9 {l:List (List UInt8)} {i:Nat} {n:List UInt8} (h:l[i]?=some n):(E3 l)[i]?=some [.sc (.string ⟨n.toArray⟩)]:=by simp[E3,h]
theorem jR {l:List (List UInt8)} {w:List UInt8} {y:AV} (hy:A0 y (E3 l)) (hl:l.length<2 ^ 60) {Post:AV->Prop} :
  ∀(j q:Nat),q+j=l.length->(∀i:Int,decide (0<=i)=(l.drop q).contains w->Post (AG i))->vq R 0 0 0 y (SS w) (AG l.length) (AG q) ⟨[],[]⟩ (QP Post):=by
 intro j
 induction j with
 | zero=>
  intro q hi hP;refine vt ?_;have h1:¬ ((q:Int)<l.length):=AA;simp[h1];refine AHv ?_;have h2:l.drop q=[]:=CA AA;rw[h2] at hP;have:=hP (-1) AD;simpa[QP,QI] using this
 | succ j D9=>
  intro q hi hP;refine vt ?_;have h1:((q:Int)<l.length):=AA;obtain⟨t,ht⟩:∃t,l[q]?=some t:=⟨_,Ay AA⟩;rw[drop_cons ht] at hP;simp[h1];refine AHw ?_;refine BR hy (row:=[.sc (.string ⟨t.toArray⟩)]) AA (by simpa using c9 ht) rfl AA ?_
  by_cases hw:w=t
  .subst hw
   have:=hP q AD;simpa[QP,QI] using this
  .simp[hw]
   refine AHx ?_;simp only[DI];refine⟨⟨Ai,Ai⟩,CS AA AA ?_⟩;have:=D9 (q+1) AA (λi h=>hP i (by rw[h]; simp[hw]));simpa using this
theorem UU {l:List (List UInt8)} {w:List UInt8} {y:AV} (hy:A0 y (E3 l)) (hl:l.length<2 ^ 60):Ae (env R) 139 [y,SS w] λr=>r=BB (l.contains w):=by
 have hi:Ae (env R) 159 [y,SS w] λr=>∃i:Int,r=AG i/\decide (0<=i)=l.contains w:=by
  refine AZW (u0:=y) (u1:=SS w) (by simp[hy.close]) (AHy ?_);simp[hy.BD,c8];exact jR hy hl l.length 0 AA (λi h=>⟨i,rfl,by simpa using h⟩)
 refine AZX (u0:=y) (u1:=SS w) (by simp[hy.close]) (AHz ?_);refine AH hi ?_;rintro v ⟨i,rfl,h⟩;simp only[DI];refine⟨⟨Ai,Ai⟩,_,GX,?_⟩;rw[<-h]
end
def UW:List Ty->Bool
 | []=>false
 | t::_=>CB 0 t
def shape (k:Int) (n:List UInt8) (i:Int) (ts:List Ty):Bool:=
 bif k==0||k==1 then ts.length==0
 else bif k==2 then M0 n&&!MX.contains n&&decide (ts.length<=6)&&EX ts
 else bif k==3 then decide (ts.length<=6)
 else bif k==4 then decide (2<=ts.length)
 else bif k==5 then ts.length==0&&decide (0<=i)&&decide (i<=200)
 else bif k==6 then ts.length==2&&UW ts
 else false
def root (k:Int) (n:List UInt8) (i:Int) (ts:List Ty):Bool:=(k==2||n==[])&&(k==5||i==0)&&shape k n i ts
mutual
def valid:Ty->Bool
 | .mk k n i ts=>root k n i ts&&A9 ts
def A9:List Ty->Bool
 | []=>true
 | t::l=>valid t&&A9 l
end
def Q0 (n:List UInt8):Prop:=n.length<2 ^ 60
mutual
def RB:Ty->Prop
 | .mk _ n _ ts=>Q0 n/\Sk ts
def Sk:List Ty->Prop
 | []=>True
 | t::l=>RB t/\Sk l
end
section
variable {R:Nat->Option (List PV)}
theorem AH0:(env R).G 2=some (EW MX):=rfl
theorem rL:EW MX=[.list (E3 MX)]:=rfl
section
variable {k i:Int} {n:List UInt8} {ts:List Ty} {a:AV} {Post:AV->Prop}
theorem sh0 (ha:A0 a (AZ ts)) (hP:Post (BB (ts.length==0))):M1 R 0 0 0 (.ptr 0 0) (AG k) (BB true) ⟨[[AG k,SS n,AG i,a]],[]⟩ (QP Post):=by
 refine Od ⟨λ_=>?_,AD⟩;have e:((ts.length:Int)==0)=(ts.length==0):=AB;simpa[-beq_iff_eq,-beq_eq_false_iff_ne,QP,QI,ha.BD,Ab,e] using hP
theorem sh2 (ha:A0 a (AZ ts)) (hs:Ac ts<2 ^ 38) (hn:Q0 n) (hP:Post (BB (M0 n&&!MX.contains n&&decide (ts.length<=6)&&EX ts))) :
  M1 R 0 0 0 (.ptr 0 0) (AG 2) (BB false) ⟨[[AG 2,SS n,AG i,a]],[]⟩ (QP Post):=by
 have hlen:=BS ts;refine Od ⟨AD,λ_=>⟨⟨rfl,rfl⟩,⟨λ_=>?_,AD⟩⟩⟩;simp only[IJ,Mx,Jw,Kh,Dc,Fk,Ew,wO,setCells,HM,Df,DQ,CT,DY,alive,DI,KQ,UI,jG,Hi,JU,Gk,Ip,L2,JV,qD,mC,okB,qE,qH,qI,qJ,qK,iG,qL,qN,qO,qP,qQ,qR,qT,qU,qV,qW,qX,okF,qY,qZ,qa,qb,qc,Q0,qd,Q1,Q2,Q3,Q4,qe,qf,qg,qh,qi,qj,qm,qo,qp,qq,GX,qt,mD,qu,qv,qw,qx,qy,rA,rC,rD,rF,rH,CD];simp only[JK,IX,B4,CI,Gu];refine⟨Ai,AH (Zw hn) ?_⟩;rintro v rfl;cases c1:M0 n with
 | false=>
  rw[c1] at hP;simpa[QP,QI] using hP
 | true=>
  simp[AH0,rL];refine AH (UU (.list _) (by simp[MX])) ?_;rintro v rfl;cases c2:MX.contains n with
  | true=>
   simp_all[QP]
  | false=>
   rw[c1,c2] at hP
   by_cases c3:ts.length<=6
   .have c3':((ts.length:Int)<=6):=by omega
    rw[Aq c3] at hP;simp[ha.BD,Ab,c3'];refine AH (Mz 2 n i ts hs a ha) ?_
    simp_all[QP]
   .have c3':¬ ((ts.length:Int)<=6):=by omega
    rw[A2 c3] at hP;simpa[QP,QI,ha.BD,Ab,c3'] using hP
theorem sh3 (ha:A0 a (AZ ts)) (hP:Post (BB (decide (ts.length<=6)))):M1 R 0 0 0 (.ptr 0 0) (AG 3) (BB false) ⟨[[AG 3,SS n,AG i,a]],[]⟩ (QP Post):=by
 refine Od ⟨AD,λ_=>⟨⟨rfl,rfl⟩,⟨AD,λ_=>⟨⟨rfl,rfl⟩,⟨λ_=>?_,AD⟩⟩⟩⟩⟩;have e:decide ((ts.length:Int)<=6)=decide (ts.length<=6):=AB;simpa[-decide_eq_true_eq,QP,QI,ha.BD,Ab,e] using hP
theorem sh4 (ha:A0 a (AZ ts)) (hP:Post (BB (decide (2<=ts.length)))):M1 R 0 0 0 (.ptr 0 0) (AG 4) (BB false) ⟨[[AG 4,SS n,AG i,a]],[]⟩ (QP Post):=by
 refine Od ⟨AD,λ_=>⟨⟨rfl,rfl⟩,⟨AD,λ_=>⟨⟨rfl,rfl⟩,⟨AD,λ_=>⟨⟨rfl,rfl⟩,⟨λ_=>?_,AD⟩⟩⟩⟩⟩⟩⟩;have e:decide (2<=(ts.length:Int))=decide (2<=ts.length):=AB;simpa[-decide_eq_true_eq,QP,QI,ha.BD,Ab,e] using hP
theorem sh5 (ha:A0 a (AZ ts)) (hP:Post (BB (ts.length==0&&decide (0<=i)&&decide (i<=200)))):M1 R 0 0 0 (.ptr 0 0) (AG 5) (BB false) ⟨[[AG 5,SS n,AG i,a]],[]⟩ (QP Post):=by
 refine Od ⟨AD,λ_=>⟨⟨rfl,rfl⟩,⟨AD,λ_=>⟨⟨rfl,rfl⟩,⟨AD,λ_=>⟨⟨rfl,rfl⟩,⟨AD,λ_=>⟨⟨rfl,rfl⟩,⟨λ_=>?_,AD⟩⟩⟩⟩⟩⟩⟩⟩⟩;cases ts with
 | cons t l=>
  have c':¬ ((l.length:Int)+1=0):=AA;have b':((l.length:Int)+1==0)=false:=AR;simpa[-beq_iff_eq,-beq_eq_false_iff_ne,QP,QI,ha.BD,Ab,b'] using hP
 | nil=>
  by_cases c1:0<=i
  .by_cases c2:i<=200
   .simpa[QP,QI,ha.BD,Ab,c1,c2] using hP
   .simpa[QP,QI,ha.BD,Ab,c1,c2] using hP
  .simpa[QP,QI,ha.BD,Ab,c1] using hP
theorem sh6 (ha:A0 a (AZ ts)) (hs:Ac ts<2 ^ 38) (hP:Post (BB (ts.length==2&&UW ts))):M1 R 0 0 0 (.ptr 0 0) (AG 6) (BB false) ⟨[[AG 6,SS n,AG i,a]],[]⟩ (QP Post):=by
 refine Od ⟨AD,λ_=>⟨⟨rfl,rfl⟩,⟨AD,λ_=>⟨⟨rfl,rfl⟩,⟨AD,λ_=>⟨⟨rfl,rfl⟩,⟨AD,λ_=>⟨⟨rfl,rfl⟩,⟨AD,λ_=>⟨⟨rfl,rfl⟩,⟨λ_=>?_,AD⟩⟩⟩⟩⟩⟩⟩⟩⟩⟩⟩
 by_cases c:ts.length=2
 .have c':((ts.length:Int)=2):=by omega
  obtain⟨t,l,rfl⟩:∃t l,ts=t::l:=by
   cases ts with
   | nil=>grind
   | cons t l=>simp
  simp only[Ac] at hs;have e3:Ae (env R) 141 [.agg ((Ah t).map .pv),AG 0] λr=>r=BB (CB 0 t):=My t AA 0 AA _ (A8.Bk t)
  have hP':Post (BB (CB 0 t)):=by grind[UW]
  have c'':((l.length:Int)+1=2):=AB;simp[ha.BD,Ab,c''];refine BR ha (row:=Ah t) AA AR (Aj t) AA ?_;obtain⟨k',n',x,es⟩:=t;simp only[Ah,CP,Cd] at e3;simp[Ah];refine AH e3 ?_;simp[*,QP]
 .have c':¬ ((ts.length:Int)=2):=by omega
  have b:(ts.length==2)=false:=AB;rw[b] at hP;have b':((ts.length:Int)==2)=false:=AB;simpa[-beq_iff_eq,-beq_eq_false_iff_ne,QP,QI,ha.BD,Ab,b'] using hP
theorem sh7 (h2:¬ k=2) (h3:¬ k=3) (h4:¬ k=4) (h5:¬ k=5) (h6:¬ k=6) (hP:Post (BB false)):M1 R 0 0 0 (.ptr 0 0) (AG k) (BB false) ⟨[[AG k,SS n,AG i,a]],[]⟩ (QP Post):=by
 refine Od ⟨AD,λ_=>⟨⟨rfl,rfl⟩,⟨AB,λ_=>⟨⟨rfl,rfl⟩,⟨AB,λ_=>⟨⟨rfl,rfl⟩,⟨AB,λ_=>⟨⟨rfl,rfl⟩,⟨AB,λ_=>⟨⟨rfl,rfl⟩,⟨AB,λ_=>AH1 ?_⟩⟩⟩⟩⟩⟩⟩⟩⟩⟩⟩;exact⟨_,GX,hP⟩
theorem L6 (ha:A0 a (AZ ts)) (hs:Ac ts<2 ^ 38) (hn:Q0 n) (hP:Post (BB (shape k n i ts))):vu R 0 0 0 (.ptr 0 0) ⟨[[AG k,SS n,AG i,a]],[]⟩ (QP Post):=by
 refine AH2 ?_
 by_cases h0:k=0
 .subst h0
  simp
  grind[sh0,shape]
 by_cases h1:k=1
 .subst h1
  simp
  grind[sh0,shape]
 have b0:(k==0)=false:=AB;have b1:(k==1)=false:=AB;simp[h0]
 grind[sh2,shape,sh3,sh4,sh5,sh6,sh7]
end
theorem UX {k i:Int} {n:List UInt8} {ts:List Ty} {a:AV} (ha:A0 a (AZ ts)) (hs:Ac ts<2 ^ 38) (hn:Q0 n):Ae (env R) 116 [.agg [AG k,SS n,AG i,a]] λr=>r=BB (root k n i ts):=by
 suffices H:∀Post:AV->Prop,Post (BB (root k n i ts))->vv R 0 0 0 (.agg [AG k,SS n,AG i,a]) ⟨[],[]⟩ (QP Post) from
  AZY (u0:=.agg [AG k,SS n,AG i,a]) (by simp[ha.close]) (H _ rfl)
 intro Post hP;refine AH3 ?_;unfold root at hP;cases b2:(k==2) with
 | true=>
  have e2:k=2:=AB;subst e2
  by_cases hi:i=0
  .subst hi
   simp[ha.ok]
   grind[L6]
  .have bi:(i==0)=false:=by grind
   rw[bi] at hP;simpa[QP,QI,ha.ok,hi,bne,bi] using hP
 | false=>
  have e2:¬ k=2:=AB;rw[b2] at hP
  by_cases hn0:n=[]
  .subst hn0
   cases b5:(k==5) with
   | true=>
    have e5:k=5:=AB;subst e5;simp[ha.ok]
    grind[L6]
   | false=>
    have e5:¬ k=5:=AB;rw[b5] at hP
    by_cases hi:i=0
    .subst hi
     simp[ha.ok,e2,e5,bne,b2,b5]
     grind[L6]
    .have bi:(i==0)=false:=by grind
     rw[bi] at hP;simpa[QP,QI,ha.ok,e2,e5,hi,bne,b2,b5,bi] using hP
  .have bn:(n==[])=false:=by grind
   rw[bn] at hP;simpa[QP,QI,ha.ok,e2,hn0,bne,b2,bn] using hP
end
def verdict (t:Ty):Int:=bif decide (200<size t)||decide (12<depth t) then 4 else bif valid t then 0 else 2
section
variable {R:Nat->Option (List PV)}
mutual
theorem MR:∀(t:Ty),size t<2 ^ 38->RB t->∀(x:AV),A8 t x->Ae (env R) 86 [x] λr=>r=BB (valid t)
 | .mk k n i ts,h,ho,x,hx=>by
  obtain⟨a,rfl,ha⟩:=hx;simp only[size] at h;simp only[RB] at ho;have ih:=LL ts AA ho.2;refine e86 (u0:=.agg [AG k,SS n,AG i,a]) (by simp[ha.close]) (APL ?_);simp[ha.ok];refine AH (UX ha AA ho.1) ?_;rintro v rfl;cases hr:root k n i ts with
  | false=>simp[*,QP,valid]
  | true=>
   have hf:∀t∈ts,Ae (env R) 117 [.agg ((Ah t).map .pv)] λr=>r=BB (!valid t):=by
    intro t ht;have e:=ih t ht;refine AZZ (by cases t; rfl) (AH4 ?_);obtain⟨k',n',x,es⟩:=t;simp only[Ah,CP,Cd] at e;simp[Ah];refine AH e ?_;simp[*,QP]
   simp;refine AH (OH ha AA hf) ?_;rintro v rfl
   have:(!ts.any λt=>!valid t)=A9 ts:=by
    clear ih hf ha h hr ho
    induction ts with
    | nil=>rfl
    | cons t l ih=>grind[A9]
   simp[*,QP,valid]
theorem LL:∀(l:List Ty),Ac l<2 ^ 38->Sk l->∀t∈l,Ae (env R) 86 [.agg ((Ah t).map .pv)] λr=>r=BB (valid t)
 | [],_,_,_,h=>by cases h
 | e::l,ho,hk,a,h=>by
  simp only[Ac] at ho;simp only[Sk] at hk;rcases A3.1 h with h' | h'
  .rw[h']
   exact MR e AA hk.1 _ (A8.Bk e)
  .exact LL l AA hk.2 a h'
end
section
variable {k i:Int} {n:List UInt8} {ts:List Ty} {a:AV} {Post:AV->Prop}
theorem ABj (ha:A0 a (AZ ts)) (hl:Ac ts<2 ^ 38) (ih:∀t∈ts,Ae (env R) 73 [.agg ((Ah t).map .pv)] λr=>r=BB (valid t)) :
  ∀(j q:Nat),q+j=ts.length->Post (BB (A9 (ts.drop q)))->ADr R 0 0 0 (.ptr 0 0) (AG ts.length) (AG q) ⟨[[AG k,SS n,AG i,a]],[]⟩ (QP Post):=by
 have Sj:=BS ts;intro j
 induction j with
 | zero=>
  intro q hi hP;refine ADs ?_;have h1:¬ ((q:Int)<ts.length):=AA;simp[h1];refine APM ?_
  simp_all[QP,A9]
 | succ j D9=>
  intro q hi hP;refine ADs ?_;have h1:((q:Int)<ts.length):=AA;obtain⟨t,ht⟩:∃t,ts[q]?=some t:=⟨_,Ay AA⟩;have hd:=drop_cons ht;rw[hd] at hP;simp only[A9] at hP;simp[h1];refine APN ?_;simp;refine BR ha (row:=Ah t) AA (by simp[*,BL]) (Aj t) AA ?_;have e3:=ih t (A5 ht);cases hg:valid t with
  | true=>
   rw[hg] at e3 hP;obtain⟨k',n',x,es⟩:=t;simp only[Ah,CP,Cd] at e3;simp[Ah];refine AH e3 ?_;rintro v rfl;simp;refine AH5 ?_;simp only[DI];refine⟨⟨Ai,Ai⟩,CS AA AA ?_⟩;have:=D9 (q+1) AA (by simpa using hP);simpa using this
  | false=>
   rw[hg] at e3 hP;obtain⟨k',n',x,es⟩:=t;simp only[Ah,CP,Cd] at e3;simp[Ah];refine AH e3 ?_
   simp_all[QP]
theorem TS (ha:A0 a (AZ ts)) (hl:Ac ts<2 ^ 38) (ih:∀t∈ts,Ae (env R) 73 [.agg ((Ah t).map .pv)] λr=>r=BB (valid t)) (hP:Post (BB (A9 ts))) :
  ADt R 0 0 0 (.ptr 0 0) (AG ts.length) ⟨[[AG k,SS n,AG i,a]],[]⟩ (QP Post):=
 APO (ABj ha hl ih ts.length 0 AA AB)
theorem vw (ha:A0 a (AZ ts)) (hl:Ac ts<2 ^ 38) (ih:∀t∈ts,Ae (env R) 73 [.agg ((Ah t).map .pv)] λr=>r=BB (valid t)) :
  ∀(j q:Nat),q+j=ts.length->Post (BB (EX (ts.drop q)&&A9 ts))->ADu R 0 0 0 (.ptr 0 0) (AG ts.length) (AG q) ⟨[[AG k,SS n,AG i,a]],[]⟩ (QP Post):=by
 have Sj:=BS ts;intro j
 induction j with
 | zero=>
  intro q hi hP;refine ADv ?_
  simp_all[TS,EX]
 | succ j D9=>
  intro q hi hP;refine ADv ?_;have h1:((q:Int)<ts.length):=AA;obtain⟨t,ht⟩:∃t,ts[q]?=some t:=⟨_,Ay AA⟩;have hd:=drop_cons ht;rw[hd] at hP;simp only[EX] at hP;simp[h1];refine APP ?_;simp;refine BR ha (row:=Ah t) AA (by simp[*,BL]) (Aj t) AA ?_;have e3:=L5 (R:=R) ts hl t (A5 ht);cases hg:plain t with
  | true=>
   rw[hg] at e3 hP;obtain⟨k',n',x,es⟩:=t;simp only[Ah,CP,Cd] at e3;simp[Ah];refine AH e3 ?_;rintro v rfl;simp;refine AH6 ?_;simp only[DI];refine⟨⟨Ai,Ai⟩,CS AA AA ?_⟩;have:=D9 (q+1) AA (by simpa using hP);simpa using this
  | false=>
   rw[hg] at e3 hP;obtain⟨k',n',x,es⟩:=t;simp only[Ah,CP,Cd] at e3;simp[Ah];refine AH e3 ?_
   simp_all[QP]
theorem wf0 (hP:Post (BB (ts.length==0&&A9 ts))):SA R 0 0 0 (.ptr 0 0) (AG ts.length) (AG k) (BB true) ⟨[[AG k,SS n,AG i,a]],[]⟩ (QP Post):=by
 refine UY ⟨λ_=>?_,AD⟩;cases ts with
 | nil=>simp_all[QP,A9]
 | cons t l=>
  have b:((l.length:Int)+1==0)=false:=AR;simpa[-beq_iff_eq,-beq_eq_false_iff_ne,QP,QI,b] using hP
theorem wf5 (hP:Post (BB (ts.length==0&&decide (0<=i)&&decide (i<=200)&&A9 ts))):SA R 0 0 0 (.ptr 0 0) (AG ts.length) (AG 5) (BB false) ⟨[[AG 5,SS n,AG i,a]],[]⟩ (QP Post):=by
 refine UY ⟨AD,λ_=>⟨⟨rfl,rfl⟩,⟨λ_=>?_,AD⟩⟩⟩;cases ts with
 | cons t l=>
  have b:((l.length:Int)+1==0)=false:=AR;simpa[-beq_iff_eq,-beq_eq_false_iff_ne,QP,QI,b] using hP
 | nil=>
  by_cases c1:0<=i
  .by_cases c2:i<=200
   .simp_all[QP,A9]
   .simpa[QP,QI,c1,c2,A9] using hP
  .simpa[QP,QI,c1,A9] using hP
theorem wf2 (ha:A0 a (AZ ts)) (hl:Ac ts<2 ^ 38) (hn:Q0 n) (ih:∀t∈ts,Ae (env R) 73 [.agg ((Ah t).map .pv)] λr=>r=BB (valid t))
  (hP:Post (BB (M0 n&&!MX.contains n&&decide (ts.length<=6)&&EX ts&&A9 ts))):SA R 0 0 0 (.ptr 0 0) (AG ts.length) (AG 2) (BB false) ⟨[[AG 2,SS n,AG i,a]],[]⟩ (QP Post):=by
 refine UY ⟨AD,λ_=>⟨⟨rfl,rfl⟩,⟨AD,λ_=>⟨⟨rfl,rfl⟩,⟨λ_=>?_,AD⟩⟩⟩⟩⟩;simp only[IJ,Mx,Jw,Kh,Dc,Fk,Ew,wO,setCells,HM,Df,DQ,CT,DY,alive,DI,KQ,UI,jG,Hi,JU,Gk,Ip,L2,JV,qD,mC,okB,qE,qH,qI,qJ,qK,iG,qL,qN,qO,qP,qQ,qR,qT,qU,qV,qW,qX,okF,qY,qZ,qa,qb,qc,Q0,qd,Q1,Q2,Q3,Q4,qe,qf,qg,qh,qi,qj,qm,qo,qp,qq,GX,qt,mD,qu,qv,qw,qx,qy,rA,rC,rD,rF,rH,CD];simp only[JK,IX,B4,CI,Gu];refine⟨Ai,AH (cz hn) ?_⟩;rintro v rfl;cases c1:M0 n with
 | false=>
  simp_all[QP]
 | true=>
  simp;refine AH Zx ?_;rintro v rfl;cases c2:MX.contains n with
  | true=>
   simp_all[QP]
  | false=>
   rw[c1,c2] at hP
   by_cases c3:ts.length<=6
   .have c3':¬ (6<(ts.length:Int)):=by omega
    rw[Aq c3] at hP;simp[c3'];exact APQ (vw ha hl ih ts.length 0 AA AB)
   .have c3':(6<(ts.length:Int)):=by omega
    simp_all[QP]
theorem wf3 (ha:A0 a (AZ ts)) (hl:Ac ts<2 ^ 38) (ih:∀t∈ts,Ae (env R) 73 [.agg ((Ah t).map .pv)] λr=>r=BB (valid t)) (hP:Post (BB (decide (ts.length<=6)&&A9 ts))) :
  SA R 0 0 0 (.ptr 0 0) (AG ts.length) (AG 3) (BB false) ⟨[[AG 3,SS n,AG i,a]],[]⟩ (QP Post):=by
 refine UY ⟨AD,λ_=>⟨⟨rfl,rfl⟩,⟨AD,λ_=>⟨⟨rfl,rfl⟩,⟨AD,λ_=>⟨⟨rfl,rfl⟩,⟨λ_=>?_,AD⟩⟩⟩⟩⟩⟩⟩
 by_cases c:ts.length<=6
 .have c':¬ (6<(ts.length:Int)):=by omega
  rw[Aq c] at hP;simp[c']
  grind[TS]
 .have c':(6<(ts.length:Int)):=by omega
  simp_all[QP]
theorem wf4 (ha:A0 a (AZ ts)) (hl:Ac ts<2 ^ 38) (ih:∀t∈ts,Ae (env R) 73 [.agg ((Ah t).map .pv)] λr=>r=BB (valid t)) (hP:Post (BB (decide (2<=ts.length)&&A9 ts))) :
  SA R 0 0 0 (.ptr 0 0) (AG ts.length) (AG 4) (BB false) ⟨[[AG 4,SS n,AG i,a]],[]⟩ (QP Post):=by
 refine UY ⟨AD,λ_=>⟨⟨rfl,rfl⟩,⟨AD,λ_=>⟨⟨rfl,rfl⟩,⟨AD,λ_=>⟨⟨rfl,rfl⟩,⟨AD,λ_=>⟨⟨rfl,rfl⟩,⟨λ_=>?_,AD⟩⟩⟩⟩⟩⟩⟩⟩⟩
 by_cases c:2<=ts.length
 .have c':¬ ((ts.length:Int)<2):=by omega
  rw[Aq c] at hP;simp[c']
  grind[TS]
 .have c':((ts.length:Int)<2):=by omega
  simp_all[QP]
theorem wf6 (ha:A0 a (AZ ts)) (hl:Ac ts<2 ^ 38) (ih:∀t∈ts,Ae (env R) 73 [.agg ((Ah t).map .pv)] λr=>r=BB (valid t)) (hP:Post (BB (ts.length==2&&UW ts&&A9 ts))) :
  SA R 0 0 0 (.ptr 0 0) (AG ts.length) (AG 6) (BB false) ⟨[[AG 6,SS n,AG i,a]],[]⟩ (QP Post):=by
 refine UY ⟨AD,λ_=>⟨⟨rfl,rfl⟩,⟨AD,λ_=>⟨⟨rfl,rfl⟩,⟨AD,λ_=>⟨⟨rfl,rfl⟩,⟨AD,λ_=>⟨⟨rfl,rfl⟩,⟨AD,λ_=>⟨⟨rfl,rfl⟩,⟨λ_=>?_,AD⟩⟩⟩⟩⟩⟩⟩⟩⟩⟩⟩
 by_cases c:ts.length=2
 .obtain⟨t,l,rfl⟩:∃t l,ts=t::l:=by
   cases ts with
   | nil=>grind
   | cons t l=>simp
  have hl':=hl;simp only[Ac] at hl';have e3:Ae (env R) 48 [.agg ((Ah t).map .pv)] λr=>r=BB (CB 0 t):=G1 AA (A8.Bk t)
  have hP':Post (BB (CB 0 t&&A9 (t::l))):=by
   rw[show(t::l).length==2 by grind] at hP;simpa[UW] using hP
  have b:(((t::l).length:Int) != 2)=false:=by
   rw[c]; rfl
  simp only[IJ,Mx,Jw,Kh,Dc,Fk,Ew,wO,setCells,HM,Df,DQ,CT,DY,alive,DI,KQ,UI,jG,Hi,JU,Gk,Ip,L2,JV,qD,mC,okB,qE,qH,qI,qJ,qK,iG,qL,qN,qO,qP,qQ,qR,qT,qU,qV,qW,qX,okF,qY,qZ,qa,qb,qc,Q0,qd,Q1,Q2,Q3,Q4,qe,qf,qg,qh,qi,qj,qm,qo,qp,qq,GX,qt,mD,qu,qv,qw,qx,qy,rA,rC,rD,rF,rH,CD,b];refine⟨⟨Ai,Ai⟩,?_⟩;simp;refine BR ha (row:=Ah t) AA (by simp[AZ]) (Aj t) AA ?_;obtain⟨k',n',x,es⟩:=t;simp only[Ah,CP,Cd] at e3;simp[Ah];refine AH e3 ?_;rintro v rfl;cases hc:CB 0 (.mk k' n' x es) with
  | false=>
   rw[hc] at hP';simpa[QP,QI] using hP'
  | true=>
   rw[hc] at hP';simp;have:=TS (n:=n) (k:=6) (i:=i) ha hl ih (by simpa using hP')
   grind
 .have c':¬ ((ts.length:Int)=2):=by omega
  have b:(ts.length==2)=false:=AB;rw[b] at hP;have b':((ts.length:Int) != 2)=true:=AB;simpa[-bne_iff_ne,QP,QI,b'] using hP
theorem wf7 (h5:¬ k=5) (h2:¬ k=2) (h3:¬ k=3) (h4:¬ k=4) (h6:¬ k=6) (hP:Post (BB false)):SA R 0 0 0 (.ptr 0 0) (AG ts.length) (AG k) (BB false) ⟨[[AG k,SS n,AG i,a]],[]⟩ (QP Post):=by
 refine UY ⟨AD,λ_=>⟨⟨rfl,rfl⟩,⟨AB,λ_=>⟨⟨rfl,rfl⟩,⟨AB,λ_=>⟨⟨rfl,rfl⟩,⟨AB,λ_=>⟨⟨rfl,rfl⟩,⟨AB,λ_=>⟨⟨rfl,rfl⟩,⟨AB,λ_=>?_⟩⟩⟩⟩⟩⟩⟩⟩⟩⟩⟩;exact⟨_,GX,hP⟩
theorem RD (ha:A0 a (AZ ts)) (hs:Ac ts<2 ^ 38) (hn:Q0 n) (ih:∀t∈ts,Ae (env R) 73 [.agg ((Ah t).map .pv)] λr=>r=BB (valid t)) (hP:Post (BB (shape k n i ts&&A9 ts))) :
  ADw R 0 0 0 (.ptr 0 0) (AG ts.length) ⟨[[AG k,SS n,AG i,a]],[]⟩ (QP Post):=by
 refine APR ?_
 by_cases h0:k=0
 .simp_all[wf0,shape]
 by_cases h1:k=1
 .simp_all[wf0,shape]
 have b0:(k==0)=false:=AB;have b1:(k==1)=false:=AB;simp[h0];have e:(BB (k==1):AV)=BB false:=by rw[b1]
 grind[wf2,shape,wf3,wf4,wf5,wf6,wf7]
end
end
abbrev ph (v:Nat):Ty:=.mk 7 [] v []
abbrev var (i:Int):Ty:=.mk 5 [] i []
def hole:Int:=1073741824
structure Br where
 bounds:List Ty
 body:Ty
def dA {α:Type} (d:α) (g:Ty->Ty->α):List Ty->α
 | [b,body]=>g b body
 | _=>d
mutual
def Bh (f:Int->Ty):Ty->Ty
 | .mk k n i ts=>bif k==5 then f i else bif k==2||k==3 then .mk k n i (Bq f ts) else .mk k n i ts
def Bq (f:Int->Ty):List Ty->List Ty
 | []=>[]
 | t::l=>Bh f t::Bq f l
end
def Hr (n:Nat):Ty->Ty:=Bh λi=>bif decide (0<=i)&&!(i==hole) then var (i+n) else var i
def rM:Ty->Ty:=Bh λi=>var (-1-i)
def Hw (n:Nat):Ty->Ty:=Bh λi=>bif i==-1 then var n else bif decide (i<0) then var (i+1) else var i
def JE (n m:Int):Ty->Ty:=Bh λi=>bif i==n then var m else var i
mutual
def oA (p:Int->Bool):Ty->Bool
 | .mk k _ i ts=>bif k==5 then p i else k==2&&UZ p ts
def UZ (p:Int->Bool):List Ty->Bool
 | []=>false
 | t::l=>oA p t||UZ p l
end
mutual
def oI (p:Int->Bool):Ty->Bool
 | .mk k n i ts=>bif k==2 then oA p (.mk k n i ts) else k==3&&KJ p ts
def KJ (p:Int->Bool):List Ty->Bool
 | []=>false
 | t::l=>oI p t||KJ p l
end
mutual
def Al:Ty->List Int
 | .mk k _ i ts=>bif k==5 then [i] else bif k==3 then Bs ts else []
def Bs:List Ty->List Int
 | []=>[]
 | t::l=>Al t++Bs l
end
mutual
def M3 (b:Ty):Ty->Nat->Ty
 | .mk c n i ts,k=>bif c==5 then(bif k==0 then b else .mk c n i ts) else bif c==3 then .mk c n i (HU b ts k) else .mk c n i ts
def HU (b:Ty):List Ty->Nat->List Ty
 | [],_=>[]
 | t::l,k=>bif decide (k<(Al t).length) then M3 b t k::l else t::HU b l (k-(Al t).length)
end
def Fh (b:Ty):Option Nat:=(Al b).findIdx? (·==hole)
def DV (b:Br) (k:Nat) (c:Br):Br:=⟨b.bounds++c.bounds,M3 (Hr b.bounds.length c.body) b.body k⟩
section
variable (BC:Nat->Bool)
def I6 {α β:Type} (g:α->Option (List β)):List α->List β->Option (List β)
 | [],out=>some out
 | a::l,out=>match g a with
  | none=>none
  | some r=>bif BC (out++r).length then none else I6 g l (out++r)
def EK (l:List Br):Nat->Br->Option (List Br)
 | 0,b=>some [b]
 | f+1,b=>match Fh b.body with
  | none=>some [b]
  | some k=>I6 BC (λc=>EK l f (DV b k c)) l []
def E9 (RE:Option (List Br)) (bound:Ty) (b:Br):Option (List Br):=
 bif oI (·==(b.bounds.length:Int)) (Hw b.bounds.length b.body) then some [⟨b.bounds++[bound],Hw b.bounds.length b.body⟩]
 else match Fh (JE b.bounds.length hole (Hw b.bounds.length b.body)) with
  | none=>some [⟨b.bounds,JE b.bounds.length hole (Hw b.bounds.length b.body)⟩]
  | some _=>match RE with
   | none=>none
   | some l=>EK BC l (Al b.body).length ⟨b.bounds,JE b.bounds.length hole (Hw b.bounds.length b.body)⟩
def HN (out:List Br) (l:List Br):List Br:=out.flatMap λb=>l.map λc=>⟨b.bounds++c.bounds,match b.body with
 | .mk _ _ _ args=>.mk 3 [] 0 (args++[Hr b.bounds.length c.body])⟩
def Ir:List (List Br)->List Br->Option (List Br)
 | [],out=>some out
 | l::ls,out=>bif BC (HN out l).length then none else Ir ls (HN out l)
def Fb {α:Type}:List (Option α)->Option (List α)
 | []=>some []
 | none::_=>none
 | some a::l=>match Fb l with
  | none=>none
  | some r=>some (a::r)
def DK:Nat->Ty->Option (List Br)
 | 0,_=>none
 | f+1,.mk k n i ts=>
  bif k==0 then some [⟨[],.mk k n i ts⟩]
  else bif k==2||k==5 then some [⟨[],rM (.mk k n i ts)⟩]
  else bif k==3 then match Fb (ts.map (DK f)) with
   | none=>none
   | some ls=>bif ls.any List.isEmpty then some [] else Ir BC ls [⟨[],.mk 3 [] 0 []⟩]
  else bif k==4 then match Fb (ts.map (DK f)) with
   | none=>none
   | some ls=>bif BC ls.flatten.length then none else some ls.flatten
  else bif k==6 then dA (some []) (λb body=>match DK f body with
    | none=>none
    | some l=>I6 BC (E9 BC (DK f b) b) l []) ts
  else some []
mutual
def sub (v:Nat) (u:Nat):Ty->Ty
 | .mk k n i ts=>bif k==5 then(bif i==(u:Int) then ph v else bif decide ((u:Int)<i) then .mk k n (i-1) ts else .mk k n i ts) else .mk k n i (Kw v u k 0 ts)
def Kw (v:Nat) (u:Nat) (k:Int) (j:Nat):List Ty->List Ty
 | []=>[]
 | t::l=>sub v (u+ER k j) t::Kw v u k (j+1) l
end
mutual
def Cw (v:Nat) (inv:Bool):Ty->Bool
 | .mk k _ i ts=>bif k==7 then i==(v:Int)&&!inv else ET v (inv&&!(k==2)) ts
def ET (v:Nat) (inv:Bool):List Ty->Bool
 | []=>false
 | t::l=>Cw v inv t||ET v inv l
end
mutual
def Bb (m:Int->Bool):Ty->Nat
 | .mk k _ i ts=>bif k==7 then(bif m i then 1 else 0) else bif k==3 then Cg m ts else 0
def Cg (m:Int->Bool):List Ty->Nat
 | []=>0
 | t::l=>Bb m t+Cg m l
end
mutual
def Ky (m:Int->Bool) (b:Ty):Ty->Nat->Ty
 | .mk c n i ts,k=>bif c==7 then(bif m i&&k==0 then b else .mk c n i ts) else bif c==3 then .mk c n i (KR m b ts k) else .mk c n i ts
def KR (m:Int->Bool) (b:Ty):List Ty->Nat->List Ty
 | [],_=>[]
 | t::l,k=>bif decide (k<Bb m t) then Ky m b t k::l else t::KR m b l (k-Bb m t)
end
abbrev F9:=Option (List Ty)×List Ty
def Cj {α:Type} (g:α->List Ty->F9):List α->List Ty->List Ty->F9
 | [],out,B=>(some out,B)
 | a::l,out,B=>match g a B with
  | (none,B)=>(none,B)
  | (some r,B)=>bif BC (out++r).length then(none,B) else Cj g l (out++r) B
def CQ (ex:List Ty->F9) (v:Nat):Nat->Ty->List Ty->F9
 | 0,t,B=>(some [t],B)
 | f+1,t,B=>bif Cw v false t then match ex B with
   | (none,B)=>(none,B)
   | (some cs,B)=>Cj BC (λc B=>CQ ex v f (Ky (·==(v:Int)) c t 0) B) cs [] B
  else(some [t],B)
def B8 (ex:List Ty->F9) (v:Nat) (t:Ty) (B:List Ty):F9:=
 bif Cw v true t then(some [t],B) else CQ BC ex v (Bb (·==(v:Int)) t) t B
def Dy:List (List Ty)->List (List Ty)->Option (List (List Ty))
 | [],out=>some out
 | l::ls,out=>bif BC (out.flatMap λp=>l.map λx=>p++[x]).length then none else Dy ls (out.flatMap λp=>l.map λx=>p++[x])
def HV (ex:Ty->List Ty->F9):List Ty->List Ty->Bool->List Ty->(List Ty×Bool)×List Ty
 | [],out,ok,B=>((out,ok),B)
 | t::l,out,ok,B=>match ex t B with
  | (none,B)=>HV ex l out false B
  | (some r,B)=>HV ex l (out++r) ok B
def FA (ex:Ty->List Ty->F9):List Ty->List (List Ty)->List Ty->Option (List (List Ty))×List Ty
 | [],out,B=>(some out,B)
 | t::l,out,B=>match ex t B with
  | (none,B)=>(none,B)
  | (some r,B)=>FA ex l (out++[r]) B
def BE:Nat->Ty->List Ty->F9
 | 0,_,B=>(none,B)
 | f+1,.mk k n i ts,B=>
  bif k==0||k==2||k==7 then(bif BC 1 then none else some [.mk k n i ts],B)
  else bif k==4 then match HV (BE f) ts [] true B with
   | ((out,ok),B)=>(bif ok&&!BC out.length then some out else none,B)
  else bif k==3 then match FA (BE f) ts [] B with
   | (none,B)=>(none,B)
   | (some ls,B)=>bif ls.any List.isEmpty then(some [],B) else match Dy BC ls [[]] with
    | none=>(none,B)
    | some all=>(bif BC all.length then none else some (all.map (.mk 3 [] 0)),B)
  else bif k==6 then dA (some [],B) (λb body=>match BE f (sub B.length 0 body) (B++[b]) with
    | (none,B1)=>(none,B1)
    | (some l,B1)=>match Cj BC (B8 BC (BE f b) B.length) l [] B1 with
     | (none,B2)=>(none,B2)
     | (some out,B2)=>(bif BC out.length then none else some out,B2)) ts
  else(bif BC 0 then none else some [],B)
end
mutual
def vis:Ty->List Int
 | .mk k _ i ts=>bif k==5 then [i] else bif k==2||k==3 then DJ ts else []
def DJ:List Ty->List Int
 | []=>[]
 | t::l=>vis t++DJ l
end
def Sl (t:Ty):Bool:=valid t&&CB 0 t
mutual
def pl:Ty->Bool
 | .mk k n i ts=>bif k==5 then n==[]&&ts.isEmpty else bif k==2 then Wr ts else Sl (.mk k n i ts)
def Wr:List Ty->Bool
 | []=>true
 | t::l=>pl t&&Wr l
end
mutual
def bd:Ty->Bool
 | .mk k n i ts=>bif k==5 then n==[]&&ts.isEmpty else bif k==2 then Wr ts else bif k==3 then M4 ts else Sl (.mk k n i ts)
def M4:List Ty->Bool
 | []=>true
 | t::l=>bd t&&M4 l
end
theorem mF {k i:Int} {n:List UInt8} {ts:List Ty} (hk:k≠6) (h:Sl (.mk k n i ts)=true):∀t∈ts,Sl t=true:=by
 unfold Sl at h;simp only[AI,valid,CB] at h;obtain⟨⟨_,h1⟩,h2⟩:=h;have h3:EF 0 k 0 ts=true:=AB;have k6:(k==6)=false:=AB;have hb:∀j,ER k j=0:=λj=>by simp[ER,k6]
 have:∀(l:List Ty) (j:Nat),A9 l=true->EF 0 k j l=true->∀t∈l,Sl t=true:=by
  intro l
  induction l with
  | nil=>simp
  | cons a l ih=>
   grind[A9,EF,Sl]
 grind
theorem Ua {k i:Int} {n:List UInt8} {ts:List Ty} (h:Sl (.mk k n i ts)=true):k≠5/\k≠7:=by grind[Sl,valid,CB,root,shape]
mutual
theorem Ie:∀(t:Ty) (f:Int->Ty),Sl t=true->Bh f t=t
 | .mk k n i ts,f,h=>by
  have hk:=Ua h;have b5:(k==5)=false:=AB;rw[Bh,b5];simp only[AL];cases b:(k==2||k==3) with
  | false=>rfl
  | true=>
   have Zy:k≠6:=AB;simp only[AN];rw[dB ts f (mF Zy h)]
theorem dB:∀(l:List Ty) (f:Int->Ty),(∀t∈l,Sl t=true)->Bq f l=l
 | [],_,_=>rfl
 | t::l,f,h=>by
  rw[Bq,Ie t f (h t AD),dB l f λt ht=>h t (FP _ ht)]
end
mutual
theorem Zz:∀(t:Ty),Sl t=true->vis t=[]
 | .mk k n i ts,h=>by
  have hk:=Ua h;have b5:(k==5)=false:=AB;rw[vis,b5];simp only[AL];cases b:(k==2||k==3) with
  | false=>rfl
  | true=>
   have Zy:k≠6:=AB;simp only[AN];exact mG ts (mF Zy h)
theorem mG:∀(l:List Ty),(∀t∈l,Sl t=true)->DJ l=[]
 | [],_=>rfl
 | t::l,h=>by
  rw[DJ,Zz t (h t AD),mG l λt ht=>h t (FP _ ht)];rfl
end
mutual
theorem IK (f:Int->Ty) (g:Int->Int):∀t:Ty,Bh f (Bh (λi=>var (g i)) t)=Bh (λi=>f (g i)) t
 | .mk k n i ts=>by
  rw[Bh,Bh];cases b5:(k==5) with
  | true=>rfl
  | false=>
   cases b:(k==2||k==3) with
   | false=>grind[Bh]
   | true=>simp only[AL,AN,Bh,b5,b,Ub f g ts]
theorem Ub (f:Int->Ty) (g:Int->Int):∀l:List Ty,Bq f (Bq (λi=>var (g i)) l)=Bq (λi=>f (g i)) l
 | []=>rfl
 | t::l=>by simp only[Bq,IK f g t,Ub f g l]
end
mutual
theorem Dg {f g:Int->Ty}:∀(t:Ty),(∀i∈vis t,f i=g i)->Bh f t=Bh g t
 | .mk k n i ts,h=>by
  rw[Bh,Bh];rw[vis] at h;cases b5:(k==5) with
  | true=>
   grind
  | false=>
   rw[b5] at h;cases b:(k==2||k==3) with
   | false=>rfl
   | true=>
    rw[b] at h;simp only[AL,AN] at h ⊢;rw[SB ts h]
theorem SB {f g:Int->Ty}:∀(l:List Ty),(∀i∈DJ l,f i=g i)->Bq f l=Bq g l
 | [],_=>rfl
 | t::l,h=>by
  simp only[DJ,B7] at h;rw[Bq,Bq,Dg t λi hi=>h i (.inl hi),SB l λi hi=>h i (.inr hi)]
end
mutual
theorem L7 (g:Int->Int):∀t:Ty,vis (Bh (λi=>var (g i)) t)=(vis t).map g
 | .mk k n i ts=>by
  rw[Bh,vis];cases b5:(k==5) with
  | true=>rfl
  | false=>
   cases b:(k==2||k==3) with
   | false=>grind[vis]
   | true=>simp only[AL,AN,vis,b5,b,dD g ts]
theorem dD (g:Int->Int):∀l:List Ty,DJ (Bq (λi=>var (g i)) l)=(DJ l).map g
 | []=>rfl
 | t::l=>by simp only[Bq,DJ,L7 g t,dD g l,PA]
end
mutual
theorem EL (g:Int->Int):∀t:Ty,Al (Bh (λi=>var (g i)) t)=(Al t).map g
 | .mk k n i ts=>by
  rw[Bh,Al];cases b5:(k==5) with
  | true=>rfl
  | false=>
   cases b3:(k==3) with
   | true=>simp only[AL,AN,Al,b5,b3,Du,Xd g ts]
   | false=>
    grind[Al]
theorem Xd (g:Int->Int):∀l:List Ty,Bs (Bq (λi=>var (g i)) l)=(Bs l).map g
 | []=>rfl
 | t::l=>by simp only[Bq,Bs,EL g t,Xd g l,PA]
end
mutual
theorem Pu:∀(t:Ty),∀i∈Al t,i∈vis t
 | .mk k n i ts=>by
  rw[Al,vis];cases b5:(k==5) with
  | true=>simp
  | false=>
   cases b3:(k==3) with
   | true=>simpa using Xe ts
   | false=>simp
theorem Xe:∀(l:List Ty),∀i∈Bs l,i∈DJ l
 | []=>by simp[Bs]
 | t::l=>by
  intro i hi;simp only[Bs,DJ,B7] at hi ⊢;rcases hi with hi|hi
  .exact .inl (Pu t i hi)
  .exact .inr (Xe l i hi)
end
mutual
theorem v7 (p:Int->Bool) (g:Int->Int):∀t:Ty,pl t=true->oA p (Bh (λi=>var (g i)) t)=oA (λi=>p (g i)) t
 | .mk k n i ts,h=>by
  rw[Bh,oA];cases b5:(k==5) with
  | true=>rfl
  | false=>
   cases b2:(k==2) with
   | true=>
    rw[pl,b5,b2] at h;simp only[AL,AN] at h;simp only[AL,AN,oA,b5,b2,Dv,CY,mH p g ts h]
   | false=>
    grind[oA]
theorem mH (p:Int->Bool) (g:Int->Int):∀l:List Ty,Wr l=true->UZ p (Bq (λi=>var (g i)) l)=UZ (λi=>p (g i)) l
 | [],_=>rfl
 | t::l,h=>by
  simp only[Wr,AI] at h;simp only[Bq,UZ,v7 p g t h.1,mH p g l h.2]
end
mutual
theorem dF {p q:Int->Bool}:∀t:Ty,(∀i∈vis t,p i=q i)->oA p t=oA q t
 | .mk k n i ts,h=>by
  rw[vis] at h;rw[oA,oA];cases b5:(k==5) with
  | true=>grind
  | false=>
   rw[b5] at h;cases b2:(k==2) with
   | false=>simp
   | true=>
    rw[b2] at h;simp only[AL,AN,Dv] at h ⊢;rw[Xf ts h]
theorem Xf {p q:Int->Bool}:∀l:List Ty,(∀i∈DJ l,p i=q i)->UZ p l=UZ q l
 | [],_=>rfl
 | t::l,h=>by
  simp only[DJ,B7] at h;rw[UZ,UZ,dF t λi hi=>h i (.inl hi),Xf l λi hi=>h i (.inr hi)]
end
mutual
theorem Pv {p q:Int->Bool}:∀t:Ty,(∀i∈vis t,p i=q i)->oI p t=oI q t
 | .mk k n i ts,h=>by
  have h0:=dF (.mk k n i ts) h;rw[vis] at h;rw[oI,oI];cases b2:(k==2) with
  | true=>grind
  | false=>
   cases b3:(k==3) with
   | false=>simp
   | true=>
    have b5:(k==5)=false:=AB;rw[b5,b3] at h;simp only[AL,AN,Du] at h;simp only[AL,CY];exact Xg ts h
theorem Xg {p q:Int->Bool}:∀l:List Ty,(∀i∈DJ l,p i=q i)->KJ p l=KJ q l
 | [],_=>rfl
 | t::l,h=>by
  simp only[DJ,B7] at h;rw[KJ,KJ,Pv t λi hi=>h i (.inl hi),Xg l λi hi=>h i (.inr hi)]
end
mutual
theorem AH7 (g:Int->Int):∀t:Ty,pl t=true->pl (Bh (λi=>var (g i)) t)=true
 | .mk k n i ts,h=>by
  rw[Bh];cases b5:(k==5) with
  | true=>rfl
  | false=>
   cases b2:(k==2) with
   | true=>
    rw[pl,b5,b2] at h;simp only[AL,AN] at h;simp only[AL,AN,Dv,pl,b5,b2,Z0 g ts h]
   | false=>
    have hc:Sl (.mk k n i ts)=true:=by grind[pl]
    have e:=Ie (.mk k n i ts) (λi=>var (g i)) hc
    grind[Bh]
theorem Z0 (g:Int->Int):∀l:List Ty,Wr l=true->Wr (Bq (λi=>var (g i)) l)=true
 | [],_=>rfl
 | t::l,h=>by
  simp only[Wr,AI] at h;simp only[Bq,Wr,AH7 g t h.1,Z0 g l h.2,Ft]
end
mutual
theorem RF (g:Int->Int):∀t:Ty,bd t=true->bd (Bh (λi=>var (g i)) t)=true
 | .mk k n i ts,h=>by
  rw[Bh];cases b5:(k==5) with
  | true=>rfl
  | false=>
   cases b2:(k==2) with
   | true=>
    simp_all[bd,Z0]
   | false=>
    cases b3:(k==3) with
    | true=>
     rw[bd,b5,b2,b3] at h;simp only[AL,AN] at h;simp only[AL,AN,Du,bd,b5,b2,b3,mI g ts h]
    | false=>
     grind
theorem mI (g:Int->Int):∀l:List Ty,M4 l=true->M4 (Bq (λi=>var (g i)) l)=true
 | [],_=>rfl
 | t::l,h=>by
  simp only[M4,AI] at h;simp only[Bq,M4,RF g t h.1,mI g l h.2,Ft]
end
mutual
theorem jS (p:Int->Bool) (g:Int->Int):∀t:Ty,bd t=true->oI p (Bh (λi=>var (g i)) t)=oI (λi=>p (g i)) t
 | .mk k n i ts,h=>by
  cases b2:(k==2) with
  | true=>
   have h2:k=2:=AB;subst h2;have hp:pl (.mk 2 n i ts)=true:=Ba;have:=v7 p g (.mk 2 n i ts) hp
   assumption
  | false=>
   rw[Bh,oI];cases b5:(k==5) with
   | true=>
    grind[oI]
   | false=>
    cases b3:(k==3) with
    | true=>
     rw[bd,b5,b2,b3] at h;simp only[AL,AN] at h;simp only[AL,AN,Du,oI,b2,b3,CY,mJ p g ts h]
    | false=>grind[oI]
theorem mJ (p:Int->Bool) (g:Int->Int):∀l:List Ty,M4 l=true->KJ p (Bq (λi=>var (g i)) l)=KJ (λi=>p (g i)) l
 | [],_=>rfl
 | t::l,h=>by
  simp only[M4,AI] at h;simp only[Bq,KJ,jS p g t h.1,mJ p g l h.2]
end
theorem G8 {k i:Int} {n:List UInt8} {ts:List Ty} (h:valid (.mk k n i ts)=true):k≠7:=by grind[valid,root,shape]
mutual
theorem Jy (v:Nat):∀(t:Ty) (inv:Bool),valid t=true->Cw v inv t=false
 | .mk k n i ts,inv,h=>by
  have b7:(k==7)=false:=by grind[G8]
  simp only[valid,AI] at h;rw[Cw,b7];simp only[AL];exact SC v ts _ h.2
theorem SC (v:Nat):∀(l:List Ty) (inv:Bool),A9 l=true->ET v inv l=false
 | [],_,_=>rfl
 | t::l,inv,h=>by
  simp only[A9,AI] at h;rw[ET,Jy v t inv h.1,SC v l inv h.2];rfl
end
theorem LM {t:Ty} (h:Sl t=true):valid t=true:=by grind[Sl]
section
variable (φ:Int->Nat)
abbrev tr (b:Ty):Ty:=Bh (λi=>ph (φ i)) b
abbrev Uc (l:List Ty):List Ty:=Bq (λi=>ph (φ i)) l
mutual
theorem ABk (v:Nat):∀b:Ty,pl b=true->Cw v false (tr φ b)=oA (λi=>φ i==v) b
 | .mk k n i ts,h=>by
  rw[tr,Bh,oA];cases b5:(k==5) with
  | true=>
   grind[Cw]
  | false=>
   cases b2:(k==2) with
   | true=>
    have h2:k=2:=AB;subst h2;rw[pl] at h;have:=Px v ts AB
    assumption
   | false=>
    have hc:Sl (.mk k n i ts)=true:=by grind[pl]
    have e:=Ie (.mk k n i ts) (λi=>ph (φ i)) hc
    grind[Bh,Jy,LM]
theorem Px (v:Nat):∀l:List Ty,Wr l=true->ET v false (Uc φ l)=UZ (λi=>φ i==v) l
 | [],_=>rfl
 | t::l,h=>by
  simp only[Wr,AI] at h;rw[Uc,Bq,ET,UZ];rw[ABk v t h.1,Px v l h.2]
end
mutual
theorem TT (v:Nat):∀b:Ty,bd b=true->Cw v true (tr φ b)=oI (λi=>φ i==v) b
 | .mk k n i ts,h=>by
  rw[tr,Bh,oI];cases b5:(k==5) with
  | true=>
   grind[Cw]
  | false=>
   cases b2:(k==2) with
   | true=>
    simp_all[bd,Px,Cw,oA]
   | false=>
    cases b3:(k==3) with
    | true=>
     have h3:k=3:=AB;subst h3;rw[bd] at h;have:=dG v ts AB
     assumption
    | false=>
     grind[bd,Jy,LM]
theorem dG (v:Nat):∀l:List Ty,M4 l=true->ET v true (Uc φ l)=KJ (λi=>φ i==v) l
 | [],_=>rfl
 | t::l,h=>by
  simp only[M4,AI] at h;rw[Uc,Bq,ET,KJ,TT v t h.1,dG v l h.2]
end
mutual
theorem v8 (v:Nat):∀b:Ty,bd b=true->Cw v false (tr φ b)=(oI (λi=>φ i==v) b||(Al b).any λi=>φ i==v)
 | .mk k n i ts,h=>by
  rw[tr,Bh,oI,Al];cases b5:(k==5) with
  | true=>
   grind[Cw]
  | false=>
   cases b2:(k==2) with
   | true=>
    simp_all[bd,Px,Cw,oA]
   | false=>
    cases b3:(k==3) with
    | true=>
     have h3:k=3:=AB;subst h3;rw[bd] at h;have:=mK v ts AB
     assumption
    | false=>
     grind[bd,Jy,LM]
theorem mK (v:Nat):∀l:List Ty,M4 l=true->ET v false (Uc φ l)=(KJ (λi=>φ i==v) l||(Bs l).any λi=>φ i==v)
 | [],_=>rfl
 | t::l,h=>by
  simp only[M4,AI] at h;rw[Uc,Bq,ET,KJ,Bs,v8 v t h.1,mK v l h.2,List.any_append]
  grind
end
mutual
theorem jT (m:Int->Bool):∀b:Ty,bd b=true->Bb m (tr φ b)=(Al b).countP λi=>m (φ i)
 | .mk k n i ts,h=>by
  rw[tr,Bh,Al];cases b5:(k==5) with
  | true=>
   rfl
  | false=>
   cases b3:(k==3) with
   | true=>
    have h3:k=3:=AB;subst h3;rw[bd] at h;have:=mL m ts AB
    assumption
   | false=>
    grind[bd,Ua,Bb]
theorem mL (m:Int->Bool):∀l:List Ty,M4 l=true->Cg m (Uc φ l)=(Bs l).countP λi=>m (φ i)
 | [],_=>rfl
 | t::l,h=>by
  simp only[M4,AI] at h;rw[Uc,Bq,Cg,Bs,jT m t h.1,mL m l h.2,S6]
end
mutual
theorem ADx (m:Int->Bool) (c:Ty):∀(b:Ty) (k j:Nat),bd b=true->(∃x,(Al b)[k]?=some x/\m (φ x)=true)->((Al b).take k).countP (λi=>m (φ i))=j->tr φ (M3 c b k)=Ky m (tr φ c) (tr φ b) j
 | .mk k n i ts,q,j,h,hx,hj=>by
  cases b5:(k==5) with
  | true=>
   grind[Al,M3,Bh,Ky]
  | false=>
   cases b3:(k==3) with
   | true=>
    have h3:k=3:=AB;subst h3;rw[bd] at h;rw[Al] at hx hj;have:=wA m c ts q j AB AB AB
    grind[M3,Bh,Ky]
   | false=>
    grind[Al]
theorem wA (m:Int->Bool) (c:Ty):∀(l:List Ty) (k j:Nat),M4 l=true->(∃x,(Bs l)[k]?=some x/\m (φ x)=true)->((Bs l).take k).countP (λi=>m (φ i))=j->Uc φ (HU c l k)=KR m (tr φ c) (Uc φ l) j
 | [],q,j,_,hx,_=>by rfl
 | t::l,q,j,h,hx,hj=>by
  simp only[M4,AI] at h;obtain⟨x,hx,hm⟩:=hx;rw[Bs] at hx hj;have hc:=jT φ m t h.1;rw[show Uc φ (t::l)=tr φ t::Uc φ l from rfl]
  by_cases hq:q<(Al t).length
  .rw[CX hq] at hx
   rw[ZA AA] at hj;have hlt:j<Bb m (tr φ t):=by grind[List.take_append_drop]
   rw[HU,KR,Aq hq,Aq hlt];simp only[AN];rw[<-ADx m c t q j h.1 ⟨x,hx,hm⟩ hj];rfl
  .rw[Ey AA] at hx
   rw[List.take_append,CV AA,S6,<-hc] at hj;have hlt:¬ j<Bb m (tr φ t):=AA;rw[HU,KR,A2 hq,A2 hlt];simp only[AL];rw[<-wA m c l (q-(Al t).length) (j-Bb m (tr φ t)) h.2 ⟨x,hx,hm⟩ AA];rfl
end
end
section
variable (c:Ty)
mutual
theorem Py:∀(b:Ty) (k:Nat),k<(Al b).length->Al (M3 c b k)=(Al b).take k++(Al c++(Al b).drop (k+1))
 | .mk q n i ts,k,hk=>by
  rw[Al] at hk ⊢;rw[M3];cases b5:(q==5) with
  | true=>
   grind
  | false=>
   rw[b5] at hk;cases b3:(q==3) with
   | true=>
    rw[b3] at hk;simp only[AL,AN] at hk ⊢;rw[Al,b5,b3];exact dH ts k hk
   | false=>grind
theorem dH:∀(l:List Ty) (k:Nat),k<(Bs l).length->Bs (HU c l k)=(Bs l).take k++(Al c++(Bs l).drop (k+1))
 | [],k,hk=>by grind[Bs]
 | t::l,k,hk=>by
  rw[Bs] at hk ⊢;rw[HU]
  by_cases h:k<(Al t).length
  .rw[Aq h]
   simp only[AN,Bs];rw[Py t k h,ZA AA,List.drop_append_of_le_length AA];simp
  .rw[A2 h]
   simp only[AL,Bs];have hk':k-(Al t).length<(Bs l).length:=AB;have e1:(Al t).take k=Al t:=CV AA;have e2:(Al t).drop (k+1)=[]:=CA AA;rw[dH l _ hk',List.take_append,e1,List.drop_append,e2]
   grind
end
mutual
theorem wC:∀(b:Ty) (k:Nat),∀i∈vis (M3 c b k),i∈vis b\/i∈vis c
 | .mk q n j ts,k,i,hi=>by
  rw[M3] at hi;cases b5:(q==5) with
  | true=>
   grind
  | false=>
   rw[b5] at hi;cases b3:(q==3) with
   | true=>
    rw[b3] at hi;simp only[AL,AN] at hi;rw[vis,b5,b3] at hi ⊢;simp only[AL,Du,AN] at hi ⊢;exact mM ts k i hi
   | false=>
    grind
theorem mM:∀(l:List Ty) (k:Nat),∀i∈DJ (HU c l k),i∈DJ l\/i∈vis c
 | [],k,i,hi=>by grind[HU]
 | t::l,k,i,hi=>by
  rw[HU] at hi;simp only[DJ,B7];cases b:decide (k<(Al t).length) with
  | true=>
   rw[b] at hi;simp only[AN,DJ,B7] at hi;rcases hi with hi|hi
   .rcases wC t k i hi with h|h
    all_goals grind
   grind
  | false=>
   rw[b] at hi;simp only[AL,DJ,B7] at hi;rcases hi with hi|hi
   .grind
   .rcases mM l _ i hi with h|h
    all_goals grind
end
mutual
theorem ADy (p:Int->Bool):∀(b:Ty) (k:Nat),oI p (M3 c b k)=true->oI p b=true\/oI p c=true
 | .mk q n j ts,k,hi=>by
  rw[M3] at hi;cases b5:(q==5) with
  | true=>
   grind
  | false=>
   rw[b5] at hi;cases b3:(q==3) with
   | true=>
    have h3:q=3:=AB;subst h3;simp only[AL,AN,CZ] at hi;rw[oI] at hi ⊢;simp only[show((3:Int)==2)=false from rfl,AL,CZ,CY] at hi ⊢;exact wD p ts k hi
   | false=>
    grind
theorem wD (p:Int->Bool):∀(l:List Ty) (k:Nat),KJ p (HU c l k)=true->KJ p l=true\/oI p c=true
 | [],k,hi=>by grind[HU]
 | t::l,k,hi=>by
  rw[HU] at hi;simp only[KJ,Dk];cases b:decide (k<(Al t).length) with
  | true=>
   rw[b] at hi;simp only[AN,KJ,Dk] at hi;rcases hi with hi|hi
   .rcases ADy p t k hi with h|h
    all_goals grind
   grind
  | false=>
   rw[b] at hi;simp only[AL,KJ,Dk] at hi;rcases hi with hi|hi
   .grind
   .rcases wD p l _ hi with h|h
    all_goals grind
end
mutual
theorem ADz (hc:bd c=true):∀(b:Ty) (k:Nat),bd b=true->bd (M3 c b k)=true
 | .mk q n j ts,k,h=>by
  rw[M3];cases b5:(q==5) with
  | true=>
   grind
  | false=>
   cases b3:(q==3) with
   | true=>
    have h3:q=3:=AB;subst h3;rw[bd] at h;simp only[AL,AN];rw[bd];have:=wE hc ts k AB
    grind
   | false=>grind
theorem wE (hc:bd c=true):∀(l:List Ty) (k:Nat),M4 l=true->M4 (HU c l k)=true
 | [],k,h=>h
 | t::l,k,h=>by
  simp only[M4,AI] at h;rw[HU];cases decide (k<(Al t).length) with
  | true=>simp[M4,ADz hc t k h.1,h.2]
  | false=>simp[M4,wE hc l _ h.2,h.1]
end
end
mutual
theorem wG:∀(b:Ty),pl b=true->∀i∈vis b,oA (·==i) b=true
 | .mk k n j ts,h,i,hi=>by
  rw[vis] at hi;rw[oA];cases b5:(k==5) with
  | true=>rw[b5] at hi; simp at hi; simp[hi]
  | false=>
   cases b2:(k==2) with
   | true=>
    rw[pl,b5,b2] at h;rw[b5,b2] at hi;simp only[AL,AN,Dv] at h hi;simp[mN ts h i hi]
   | false=>
    have hc:Sl (.mk k n j ts)=true:=by grind[pl]
    have:=Zz _ hc
    grind[vis]
theorem mN:∀(l:List Ty),Wr l=true->∀i∈DJ l,UZ (·==i) l=true
 | [],_,i,hi=>by cases hi
 | t::l,h,i,hi=>by
  simp only[Wr,AI] at h;rw[DJ,B7] at hi;rw[UZ,Dk];rcases hi with hi|hi
  .exact .inl (wG t h.1 i hi)
  .exact .inr (mN l h.2 i hi)
end
mutual
theorem Xh:∀(b:Ty),bd b=true->∀i∈vis b,i∈Al b\/oI (·==i) b=true
 | .mk k n j ts,h,i,hi=>by
  cases b2:(k==2) with
  | true=>
   grind[pl,bd,oI,wG]
  | false=>
   rw[vis] at hi;rw[Al,oI];cases b5:(k==5) with
   | true=>grind
   | false=>
    cases b3:(k==3) with
    | true=>
     rw[bd,b5,b2,b3] at h;rw[b5,b2,b3] at hi;simp only[AL,AN,Du] at h hi;have:=Ud ts h i hi
     grind
    | false=>
     grind
theorem Ud:∀(l:List Ty),M4 l=true->∀i∈DJ l,i∈Bs l\/KJ (·==i) l=true
 | [],_,i,hi=>by cases hi
 | t::l,h,i,hi=>by
  simp only[M4,AI] at h;rw[DJ,B7] at hi;rw[Bs,B7,KJ,Dk];rcases hi with hi|hi
  .rcases Xh t h.1 i hi with h' | h'
   all_goals grind
  .rcases Ud l h.2 i hi with h' | h'
   all_goals grind
end
mutual
theorem wJ (p:Int->Bool):∀(b:Ty),oI p b=true->∃i∈vis b,p i=true
 | .mk k n j ts,h=>by
  rw[oI] at h;cases b2:(k==2) with
  | true=>
   rw[b2] at h;simp only[AN] at h;exact wK p _ h
  | false=>
   rw[b2] at h;simp only[AL,AI] at h;have h3:k=3:=AB;subst h3;rw[vis];simpa using mO p ts h.2
theorem mO (p:Int->Bool):∀(l:List Ty),KJ p l=true->∃i∈DJ l,p i=true
 | [],h=>by cases h
 | t::l,h=>by
  rw[KJ,Dk] at h;rw[DJ];rcases h with h|h
  .obtain⟨i,h1,h2⟩:=wJ p t h
   grind
  .obtain⟨i,h1,h2⟩:=mO p l h
   grind
theorem wK (p:Int->Bool):∀(b:Ty),oA p b=true->∃i∈vis b,p i=true
 | .mk k n j ts,h=>by
  rw[oA] at h;rw[vis];cases b5:(k==5) with
  | true=>
   grind
  | false=>
   rw[b5] at h;simp only[AL,AI] at h;simpa[h.1] using mP p ts h.2
theorem mP (p:Int->Bool):∀(l:List Ty),UZ p l=true->∃i∈DJ l,p i=true
 | [],h=>by cases h
 | t::l,h=>by
  rw[UZ,Dk] at h;rw[DJ];rcases h with h|h
  .obtain⟨i,h1,h2⟩:=wK p t h
   grind
  .obtain⟨i,h1,h2⟩:=mP p l h
   grind
end
mutual
def inst (σ:List Nat) (u:Nat):Ty->Ty
 | .mk k n i ts=>bif k==5 then(bif decide ((u:Int)<=i) then(match σ[(i-u).toNat]? with
  | some v=>ph v
  | none=>.mk k n i ts) else .mk k n i ts) else .mk k n i (Di σ u k 0 ts)
def Di (σ:List Nat) (u:Nat) (k:Int) (j:Nat):List Ty->List Ty
 | []=>[]
 | t::l=>inst σ (u+ER k j) t::Di σ u k (j+1) l
end
theorem Dd {u:Nat} {k i:Int} {n:List UInt8} {ts:List Ty} (h:CB u (.mk k n i ts)=true) (h5:k≠5):EF u k 0 ts=true:=by grind[CB]
theorem LN {u:Nat} {i:Int} {n:List UInt8} {ts:List Ty} (h:CB u (.mk 5 n i ts)=true):i<u:=by grind[CB]
theorem Eb {n:List UInt8} {i:Int} {ts:List Ty} (h:valid (.mk 5 n i ts)=true):n=[]/\ts=[]/\0<=i:=by grind[valid,root,shape]
mutual
theorem JW (σ:List Nat):∀(t:Ty) (u:Nat),valid t=true->CB u t=true->inst σ u t=t
 | .mk k n i ts,u,hv,hc=>by
  rw[inst]
  by_cases h5:k=5
  .subst h5
   have:=LN hc
   grind
  .have b5:(k==5)=false:=by grind
   simp only[valid,AI] at hv;rw[b5];simp only[AL];rw[dI σ ts u k 0 hv.2 (Dd hc h5)]
theorem dI (σ:List Nat):∀(l:List Ty) (u:Nat) (k:Int) (j:Nat),A9 l=true->EF u k j l=true->Di σ u k j l=l
 | [],_,_,_,_,_=>rfl
 | t::l,u,k,j,hv,hc=>by
  simp only[A9,AI] at hv;simp only[EF,AI] at hc;rw[Di,JW σ t _ hv.1 hc.1,dI σ l u k (j+1) hv.2 hc.2]
end
mutual
theorem Jz (v:Nat) (σ:List Nat):∀(t:Ty) (u:Nat),valid t=true->CB (u+1+σ.length) t=true->sub v u (inst σ (u+1) t)=inst (v::σ) u t
 | .mk k n i ts,u,hv,hc=>by
  rw[inst,inst]
  by_cases h5:k=5
  .subst h5
   have hi:=LN hc;obtain⟨rfl,rfl,h0⟩:=Eb hv;simp only[CZ,AN]
   by_cases hu:(u:Int)+1<=i
   .have h1:((u+1:Nat):Int)<=i:=by omega
    have h2:(u:Int)<=i:=AA;rw[Aq h1,Aq h2];simp only[AN];have e:(i-(u:Int)).toNat=(i-((u+1:Nat):Int)).toNat+1:=AA;rw[e,IX];obtain⟨w,hw⟩:∃w,σ[(i-((u+1:Nat):Int)).toNat]?=some w:=⟨_,Ay AA⟩
    simp_all[sub,Kw]
   grind[sub]
  .have b5:(k==5)=false:=by grind
   simp only[valid,AI] at hv;rw[b5];simp only[AL];rw[sub,b5];simp only[AL];rw[Xi v σ ts u k 0 hv.2 (Dd hc h5)]
theorem Xi (v:Nat) (σ:List Nat):∀(l:List Ty) (u:Nat) (k:Int) (j:Nat),A9 l=true->EF (u+1+σ.length) k j l=true->Kw v u k j (Di σ (u+1) k j l)=Di (v::σ) u k j l
 | [],_,_,_,_,_=>rfl
 | t::l,u,k,j,hv,hc=>by
  simp only[A9,AI] at hv;simp only[EF,AI] at hc;rw[Di,Kw,Di];have e:u+1+ER k j=u+ER k j+1:=AA;rw[e,Jz v σ t (u+ER k j) hv.1 AB,Xi v σ l u k (j+1) hv.2 hc.2]
end
theorem SD {n:List UInt8} {i:Int} {ts:List Ty} (h:valid (.mk 2 n i ts)=true):EX ts=true:=by grind[valid,root,shape]
mutual
theorem Oe (σ:List Nat):∀(t:Ty),valid t=true->plain t=true->CB σ.length t=true->pl t=true/\inst σ 0 t=tr (λi=>σ.getD i.toNat 0) t
 | .mk k n i ts,hv,hp,hc=>by
  by_cases h5:k=5
  .subst h5
   obtain⟨rfl,rfl,h0⟩:=Eb hv;have hi:=LN hc
   grind[pl,inst,Bh]
  .have b5:(k==5)=false:=by grind
   by_cases h2:k=2
   .subst h2
    have LK:=SD hv;simp only[valid,AI] at hv;obtain⟨q1,q2⟩:=SE σ ts 2 AK 0 hv.2 LK (Dd hc AK)
    grind[pl,inst,Bh]
   grind[plain,Sl,pl,JW,Ie]
theorem SE (σ:List Nat):∀(l:List Ty) (k:Int),k≠6->∀(j:Nat),A9 l=true->EX l=true->EF σ.length k j l=true->Wr l=true/\Di σ 0 k j l=Uc (λi=>σ.getD i.toNat 0) l
 | [],_,_,_,_,_,_=>⟨rfl,rfl⟩
 | t::l,k,h6,j,hv,hp,hc=>by
  simp only[A9,AI] at hv;simp only[EX,AI] at hp;have b6:(k==6)=false:=AB;have hb:ER k j=0:=by simp[ER,b6]
  simp only[EF,AI,hb,Gt] at hc;obtain⟨q1,q2⟩:=Oe σ t hv.1 hp.1 hc.1;obtain⟨r1,r2⟩:=SE σ l k h6 (j+1) hv.2 hp.2 hc.2;refine⟨by grind[Wr],?_⟩;rw[Di,hb,Gt,q2,r2];rfl
end
mutual
theorem RG (u:Nat):∀(t:Ty),valid t=true->CB u t=true->∀i∈vis t,0<=i/\i<u
 | .mk k n j ts,hv,hc,i,hi=>by
  rw[vis] at hi
  by_cases h5:k=5
  .subst h5
   obtain⟨rfl,rfl,h0⟩:=Eb hv;have:=LN hc
   grind
  .have b5:(k==5)=false:=by grind
   rw[b5] at hi;cases b:(k==2||k==3) with
   | false=>grind
   | true=>
    rw[b] at hi;simp only[AL,AN] at hi;simp only[valid,AI] at hv;exact Ue u ts k AB 0 hv.2 (Dd hc h5) i hi
theorem Ue (u:Nat):∀(l:List Ty) (k:Int),k≠6->∀(j:Nat),A9 l=true->EF u k j l=true->∀i∈DJ l,0<=i/\i<u
 | [],_,_,_,_,_,i,hi=>by cases hi
 | t::l,k,h6,j,hv,hc,i,hi=>by
  simp only[A9,AI] at hv;have b6:(k==6)=false:=AB;have hb:ER k j=0:=by simp[ER,b6]
  simp only[EF,AI,hb,Gt] at hc;rw[DJ,B7] at hi;rcases hi with hi|hi
  .exact RG u t hv.1 hc.1 i hi
  .exact Ue u l k h6 (j+1) hv.2 hc.2 i hi
end
end Go.Proofs.YtpgfpakdnijngaaGreatDoor
