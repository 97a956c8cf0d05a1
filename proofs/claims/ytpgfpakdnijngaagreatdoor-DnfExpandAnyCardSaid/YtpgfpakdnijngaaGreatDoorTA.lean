/-
  Terms ts plain data; their size and depth.
-/
import Derived.Test.YtpgfpakdnijngaaGreatDoorW1
import Derived.Test.YtpgfpakdnijngaaGreatDoorWpH
set_option linter.all false
namespace Go.Proofs.YtpgfpakdnijngaaGreatDoor
open Go.Tel
attribute [local simp] Cl Bs Lf Lg AO Cw FJ wO setCells Ci FC Dn Dh Ax alive Cg GD I1 oU A8 DF BO Gx Dv Cz tM oV okB tN tP tQ tR tS eC tT tU tV tW tX tY tZ td th tj tq okF uA uB uC uD uE YE uF S0 S1 S2 S3 uG uH uI uJ rG uK uL uM uN uO Fz uP rH uQ uR uS uT uU uV uW uX uY uZ Co g0 g1 xI xL xM xF xG xC lf Y4 Y5
inductive Ty where
 | mk (kind:Int) (name:List UInt8) (index:Int) (args:List Ty)
mutual
def Ag:Ty->List PV
 | .mk k n i ts=>[.sc (.int .i64 k),.sc (.string ⟨n.toArray⟩),.sc (.int .i64 i),.list (AZ ts)]
def AZ:List Ty->List (List PV)
 | []=>[]
 | v::vs=>Ag v::AZ vs
end
theorem IA:∀l,AZ l=l.map Ag
 | []=>by rfl
 | v::vs=>by simp[AZ,IA vs]
theorem Af (v:Ty):(Ag v).length=4:=by cases v; rfl
theorem AQ (l:List Ty):(AZ l).length=l.length:=by simp[IA]
theorem BG {l:List Ty} {i:Nat} {a:Ty} (h:l[i]?=some a):(AZ l)[i]?=some (Ag a):=by grind[IA]
def A7 (v:Ty) (x:AV):Prop:=match v with
 | .mk k n i ts=>∃a,x=.agg [AB k,SS n,AB i,a]/\Ao a (AZ ts)
theorem A7.BZ (v:Ty):A7 v (.agg ((Ag v).map .pv)):=by
 cases v with
 | mk k n s es=>exact⟨_,by rfl,.list _⟩
theorem drop_cons {α:Type} {l:List α} {i:Nat} {a:α} (h:l[i]?=some a):l.drop i=a::l.drop (i+1):=by grind[List.drop_eq_getElem_cons]
mutual
def size:Ty->Nat
 | .mk _ _ _ ts=>AY ts+1
def AY:List Ty->Nat
 | []=>0
 | a::l=>size a+AY l
end
mutual
def depth:Ty->Nat
 | .mk _ _ _ ts=>FN ts+1
def FN:List Ty->Nat
 | []=>0
 | a::l=>max (depth a) (FN l)
end
theorem size_pos (t:Ty):0<size t:=by cases t; simp[size]
theorem BQ:∀l:List Ty,l.length<=AY l
 | []=>by simp
 | a::l=>by
  have:=size_pos a;have:=BQ l
  grind[AY]
mutual
theorem S4:∀t:Ty,depth t<=size t
 | .mk _ _ _ ts=>by
  have:=Vr ts
  grind[depth,size]
theorem Vr:∀l:List Ty,FN l<=AY l
 | []=>by simp[FN]
 | a::l=>by
  have:=S4 a;have:=Vr l
  grind[FN,AY]
end
theorem HH:∀{l:List Ty} {a:Ty},a∈l->size a<=AY l
 | [],_,h=>by cases h
 | b::l,a,h=>by
  simp only[AY];rcases A6.1 h with rfl|h
  .omega
  .have:=HH h; omega
section
variable {R:Nat->Option (List PV)}
theorem oW {ts:List Ty} {a:AV} (ha:Ao a (AZ ts)) (hl:AY ts<2 ^ 60) (ih:∀t∈ts,AM (env R) 84 [.agg ((Ag t).map .pv)] λr=>r=AB (size t)) {Post:AV->Prop} :
  ∀(j i c:Nat) (s:AL),i+j=ts.length->c+AY (ts.drop i)<2 ^ 61->Post (AB ((c+AY (ts.drop i):Nat):Int))->ju R 0 0 0 (AB c) a (AB ts.length) (AB i) s (QP Post):=by
 have Uv:=BQ ts;intro j
 induction j with
 | zero=>
  intro i c s hi hc hP;refine AEr ?_;have h1:¬ ((i:Int)<ts.length):=by omega
  simp[h1];refine AOd ?_
  simp_all[QP,AY]
 | succ j D7=>
  intro i c s hi hc hP;refine AEr ?_;have h1:((i:Int)<ts.length):=by omega
  obtain⟨t,ht⟩:∃t,ts[i]?=some t:=⟨_,Ak (by omega)⟩;have hd:=drop_cons ht;rw[hd] at hP hc;simp only[AY] at hP hc;simp[h1];refine AOe ?_;refine BK ha (row:=Ag t) (by omega) (by grind[BG]) (Af t) (by omega) ?_;have e3:=ih t (A5 ht);have e4:size t<=AY ts:=HH (A5 ht);obtain⟨k,n,x,es⟩:=t;simp only[Ag,CE,Cs] at e3;simp[Ag,R4,S5,R5,S6];refine AD e3 ?_;rintro v rfl;simp only[Cg,xI];refine⟨⟨Ab,Ab⟩,B8 (by omega) (by omega) (AOf ?_)⟩;simp only[Cg,xI];refine⟨⟨Ab,Ab⟩,B8 (by omega) (by omega) ?_⟩;have:=D7 (i+1) (c+size (.mk k n x es)) ⟨s.bs++[[AB k,SS n,AB x,.pv (.list (AZ es))]],s.ts⟩ (by omega) (by omega) (by grind)
  grind
mutual
theorem P1:∀(t:Ty),size t<2 ^ 60->∀(x:AV),A7 t x->AM (env R) 84 [x] λr=>r=AB (size t)
 | .mk k n i ts,h,x,hx=>by
  obtain⟨a,rfl,ha⟩:=hx;simp only[size] at h;have ih:=S7 ts (by omega);refine e84 (u0:=.agg [AB k,SS n,AB i,a]) (by simp[ha.close]) (AOg ?_);simp[ha.ok,ha.A9,AQ];refine oW ha (by omega) ih ts.length 0 1 _ (by omega) (by grind) ?_
  grind[size]
theorem S7:∀(l:List Ty),AY l<2 ^ 60->∀t∈l,AM (env R) 84 [.agg ((Ag t).map .pv)] λr=>r=AB (size t)
 | [],_,_,h=>by cases h
 | e::l,ho,a,h=>by
  simp only[AY] at ho;rcases A6.1 h with h' | h'
  .rw[h']
   exact P1 e (by omega) _ (A7.BZ e)
  .exact S7 l (by omega) a h'
end
end
section
variable {R:Nat->Option (List PV)}
theorem fJ {k i:Int} {n:List UInt8} {ts:List Ty} {a:AV} (ha:Ao a (AZ ts)) (hl:AY ts<2 ^ 60) (ih:∀t∈ts,AM (env R) 71 [.agg ((Ag t).map .pv)] λr=>r=AB (size t)) {Post:AV->Prop} :
  ∀(j q c:Nat),q+j=ts.length->c+AY (ts.drop q)<2 ^ 61->Post (AB ((c+AY (ts.drop q):Nat):Int))->jv R 0 0 0 (.ptr 0 0) (AB c) (AB q) ⟨[[AB k,SS n,AB i,a]],[]⟩ (QP Post):=by
 have Uv:=BQ ts;intro j
 induction j with
 | zero=>
  intro q c hi hc hP;refine AEs ?_;have h1:¬ ((q:Int)<ts.length):=by omega
  simp[ha.A9,AQ,h1];refine AOh ?_
  simp_all[QP,AY]
 | succ j D7=>
  intro q c hi hc hP;refine AEs ?_;have h1:((q:Int)<ts.length):=by omega
  obtain⟨t,ht⟩:∃t,ts[q]?=some t:=⟨_,Ak (by omega)⟩;have hd:=drop_cons ht;rw[hd] at hP hc;simp only[AY] at hP hc;simp[ha.A9,AQ,h1];refine AOi ?_;simp;refine BK ha (row:=Ag t) (by omega) (by grind[BG]) (Af t) (by omega) ?_;have e3:=ih t (A5 ht);have e4:size t<=AY ts:=HH (A5 ht);obtain⟨k,n,x,es⟩:=t;simp only[Ag,CE,Cs] at e3;simp[Ag];refine AD e3 ?_;rintro v rfl;simp only[Cg,xI];refine⟨⟨Ab,Ab⟩,B8 (by omega) (by omega) (AOj ?_)⟩;simp only[Cg,xI];refine⟨⟨Ab,Ab⟩,B8 (by omega) (by omega) ?_⟩;have:=D7 (q+1) (c+size (.mk k n x es)) (by omega) (by omega) (by simpa[XV] using hP);simpa using this
mutual
theorem Nh:∀(t:Ty),size t<2 ^ 60->∀(x:AV),A7 t x->AM (env R) 71 [x] λr=>r=AB (size t)
 | .mk k n i ts,h,x,hx=>by
  obtain⟨a,rfl,ha⟩:=hx;simp only[size] at h;have ih:=Qz ts (by omega);refine e71 (u0:=.agg [AB k,SS n,AB i,a]) (by simp[ha.close]) (AOk ?_);simp[ha.ok];refine fJ ha (by omega) ih ts.length 0 1 (by omega) (by grind) ?_
  grind[size]
theorem Qz:∀(l:List Ty),AY l<2 ^ 60->∀t∈l,AM (env R) 71 [.agg ((Ag t).map .pv)] λr=>r=AB (size t)
 | [],_,_,h=>by cases h
 | e::l,ho,a,h=>by
  simp only[AY] at ho;rcases A6.1 h with h' | h'
  .rw[h']
   exact Nh e (by omega) _ (A7.BZ e)
  .exact Qz l (by omega) a h'
end
theorem fK {ts:List Ty} {a:AV} (ha:Ao a (AZ ts)) (hl:AY ts<2 ^ 60) (ih:∀t∈ts,AM (env R) 85 [.agg ((Ag t).map .pv)] λr=>r=AB (depth t)) {Post:AV->Prop} :
  ∀(j i c:Nat) (s:AL),i+j=ts.length->c<2 ^ 60->Post (AB ((max c (FN (ts.drop i))+1:Nat):Int))->jx R 0 0 0 (AB c) a (AB ts.length) (AB i) s (QP Post):=by
 have Uv:=BQ ts;intro j
 induction j with
 | zero=>
  intro i c s hi hc hP;refine AEt ?_;have h1:¬ ((i:Int)<ts.length):=by omega
  simp[h1];refine AOl ?_;have h2:ts.drop i=[]:=Bt (by omega);rw[h2] at hP;simp only[FN,Nat.max_zero] at hP;simp only[Cg,xI];refine⟨⟨Ab,Ab⟩,B8 (by omega) (by omega) ?_⟩;exact⟨_,Fz,by grind⟩
 | succ j D7=>
  intro i c s hi hc hP;refine AEt ?_;have h1:((i:Int)<ts.length):=by omega
  obtain⟨t,ht⟩:∃t,ts[i]?=some t:=⟨_,Ak (by omega)⟩;have hd:=drop_cons ht;rw[hd] at hP;simp only[FN] at hP;simp[h1];refine AOm ?_;refine BK ha (row:=Ag t) (by omega) (by grind[BG]) (Af t) (by omega) ?_;have e3:=ih t (A5 ht);have e4:size t<=AY ts:=HH (A5 ht);have e5:=S4 t;obtain⟨k,n,x,es⟩:=t;simp only[Ag,CE,Cs] at e3;simp[Ag,R4,S5,R5,S6];refine AD e3 ?_;rintro v rfl;refine Vs (x:=.tmp 13) (y:=.tmp 15) (t:=#[3,3]) (by rfl) rfl rfl (AOn ?_);simp only[Cg,xI];refine⟨⟨Ab,Ab⟩,B8 (by omega) (by omega) ?_⟩;have:=D7 (i+1) (max c (depth (.mk k n x es))) ⟨s.bs++[[AB k,SS n,AB x,.pv (.list (AZ es))]],s.ts⟩ (by omega) (by omega) (by grind)
  grind
mutual
theorem S8:∀(t:Ty),size t<2 ^ 60->∀(x:AV),A7 t x->AM (env R) 85 [x] λr=>r=AB (depth t)
 | .mk k n i ts,h,x,hx=>by
  obtain⟨a,rfl,ha⟩:=hx;simp only[size] at h;have ih:=Q0 ts (by omega);refine e85 (u0:=.agg [AB k,SS n,AB i,a]) (by simp[ha.close]) (AOo ?_);simp[ha.ok,ha.A9,AQ];refine fK ha (by omega) ih ts.length 0 0 _ (by omega) (by omega) ?_;rfl
theorem Q0:∀(l:List Ty),AY l<2 ^ 60->∀t∈l,AM (env R) 85 [.agg ((Ag t).map .pv)] λr=>r=AB (depth t)
 | [],_,_,h=>by cases h
 | e::l,ho,a,h=>by
  simp only[AY] at ho;rcases A6.1 h with h' | h'
  .rw[h']
   exact S8 e (by omega) _ (A7.BZ e)
  .exact Q0 l (by omega) a h'
end
theorem Z6 {k i:Int} {n:List UInt8} {ts:List Ty} {a:AV} (ha:Ao a (AZ ts)) (hl:AY ts<2 ^ 60) (ih:∀t∈ts,AM (env R) 72 [.agg ((Ag t).map .pv)] λr=>r=AB (depth t)) {Post:AV->Prop} :
  ∀(j q c:Nat),q+j=ts.length->c<2 ^ 60->Post (AB ((max c (FN (ts.drop q))+1:Nat):Int))->jy R 0 0 0 (.ptr 0 0) (AB c) (AB q) ⟨[[AB k,SS n,AB i,a]],[]⟩ (QP Post):=by
 have Uv:=BQ ts;intro j
 induction j with
 | zero=>
  intro q c hi hc hP;refine AEu ?_;have h1:¬ ((q:Int)<ts.length):=by omega
  simp[ha.A9,AQ,h1];refine AOp ?_;have h2:ts.drop q=[]:=Bt (by omega);rw[h2] at hP;simp only[FN,Nat.max_zero] at hP;simp only[Cg,xI];refine⟨⟨Ab,Ab⟩,B8 (by omega) (by omega) ?_⟩;exact⟨_,Fz,by grind⟩
 | succ j D7=>
  intro q c hi hc hP;refine AEu ?_;have h1:((q:Int)<ts.length):=by omega
  obtain⟨t,ht⟩:∃t,ts[q]?=some t:=⟨_,Ak (by omega)⟩;have hd:=drop_cons ht;rw[hd] at hP;simp only[FN] at hP;simp[ha.A9,AQ,h1];refine AOq ?_;simp;refine BK ha (row:=Ag t) (by omega) (by grind[BG]) (Af t) (by omega) ?_;have e3:=ih t (A5 ht);have e4:size t<=AY ts:=HH (A5 ht);have e5:=S4 t;obtain⟨k,n,x,es⟩:=t;simp only[Ag,CE,Cs] at e3;simp[Ag];refine AD e3 ?_;rintro v rfl;refine Vs (x:=.tmp 12) (y:=.tmp 18) (t:=#[3,3]) (by rfl) rfl rfl (AOr ?_);simp only[Cg,xI];refine⟨⟨Ab,Ab⟩,B8 (by omega) (by omega) ?_⟩;have:=D7 (q+1) (max c (depth (.mk k n x es))) (by omega) (by omega) (by grind)
  grind
mutual
theorem Q1:∀(t:Ty),size t<2 ^ 60->∀(x:AV),A7 t x->AM (env R) 72 [x] λr=>r=AB (depth t)
 | .mk k n i ts,h,x,hx=>by
  obtain⟨a,rfl,ha⟩:=hx;simp only[size] at h;have ih:=Om ts (by omega);refine e72 (u0:=.agg [AB k,SS n,AB i,a]) (by simp[ha.close]) (AOs ?_);simp[ha.ok];refine Z6 ha (by omega) ih ts.length 0 0 (by omega) (by omega) ?_;rfl
theorem Om:∀(l:List Ty),AY l<2 ^ 60->∀t∈l,AM (env R) 72 [.agg ((Ag t).map .pv)] λr=>r=AB (depth t)
 | [],_,_,h=>by cases h
 | e::l,ho,a,h=>by
  simp only[AY] at ho;rcases A6.1 h with h' | h'
  .rw[h']
   exact Q1 e (by omega) _ (A7.BZ e)
  .exact Om l (by omega) a h'
end
end
def Ec (k:Int) (j:Nat):Nat:=bif k==6&&j==1 then 1 else 0
mutual
def Cv (u:Nat):Ty->Bool
 | .mk k _ i ts=>bif k==5&&decide ((u:Int)<=i) then false else D8 u k 0 ts
def D8 (u:Nat) (k:Int) (j:Nat):List Ty->Bool
 | []=>true
 | t::l=>Cv (u+Ec k j) t&&D8 u k (j+1) l
end
mutual
theorem On:∀t:Ty,Lu (Ag t) (Ag t)=true
 | .mk k n i ts=>by simp[Ag,Lu,NA,GF,Ir,DQ ts]
theorem DQ:∀l:List Ty,IV (AZ l) (AZ l)=true
 | []=>by rfl
 | t::l=>by simp[AZ,IV,On t,DQ l]
end
theorem P3 (k:Int) (j:Nat):Ec k j<=1:=by grind[Ec]
section
variable {R:Nat->Option (List PV)}
theorem LK {k i:Int} {n:List UInt8} {a:AV} {rows:List (List PV)} (ha:Ao a rows) (j:Nat):AM (env R) 119 [.agg [AB k,SS n,AB i,a],AB j] λr=>r=AB (Ec k j):=by
 refine AVl (u0:=.agg [AB k,SS n,AB i,a]) (u1:=AB j) (by simp[ha.close]) (AJG ?_);have h2:(((j:Int))==1)=(j==1):=by grind
 cases h1:(k==6) with
 | false=>
  simp[-beq_iff_eq,ha.ok,h1];refine ua ?_;simp[*,QP,Ec]
 | true=>
  cases h3:(j==1) with
  | false=>
   rw[h3] at h2;simp[-beq_iff_eq,ha.ok,h1,h2];refine ua ?_;simp[*,QP,Ec]
  | true=>
   rw[h3] at h2;simp[-beq_iff_eq,QP,QI,ha.ok,h1,h2,Ec,h3]
theorem VG {k i:Int} {n:List UInt8} {a:AV} {rows:List (List PV)} (ha:Ao a rows) (j:Nat):AM (env R) 151 [.agg [AB k,SS n,AB i,a],AB j] λr=>r=AB (Ec k j):=by
 refine AVm (u0:=.agg [AB k,SS n,AB i,a]) (u1:=AB j) (by simp[ha.close]) (AJH ?_);have h2:(((j:Int))==1)=(j==1):=by grind
 cases h1:(k==6) with
 | false=>
  simp[-beq_iff_eq,ha.ok,h1];refine ud ?_;simp[*,QP,Ec]
 | true=>
  cases h3:(j==1) with
  | false=>
   rw[h3] at h2;simp[-beq_iff_eq,ha.ok,h1,h2];refine ud ?_;simp[*,QP,Ec]
  | true=>
   rw[h3] at h2;simp[-beq_iff_eq,QP,QI,ha.ok,h1,h2,Ec,h3]
theorem Z7 {k i:Int} {n:List UInt8} {ts:List Ty} {a:AV} {u:Nat} (ha:Ao a (AZ ts)) (hl:AY ts<2 ^ 60) (hu:u<2 ^ 60)
  (ih:∀t∈ts,∀v,v<=u+1->AM (env R) 141 [.agg ((Ag t).map .pv),AB v] λr=>r=BB (Cv v t)) {Post:AV->Prop} :
  ∀(j q:Nat) (m:List (List AV)),q+j=ts.length->Post (BB (D8 u k q (ts.drop q)))->YF R 0 0 0 (AB u) (.ptr 0 0) a (AB ts.length) (AB q) ⟨[AB k,SS n,AB i,a]::m,[]⟩ (QP Post):=by
 have Uv:=BQ ts;intro j
 induction j with
 | zero=>
  intro q m hi hP;refine ue ?_;have h1:¬ ((q:Int)<ts.length):=by omega
  simp[h1];refine AJI ?_
  simp_all[QP,D8]
 | succ j D7=>
  intro q m hi hP;refine ue ?_;have h1:((q:Int)<ts.length):=by omega
  obtain⟨t,ht⟩:∃t,ts[q]?=some t:=⟨_,Ak (by omega)⟩;have hd:=drop_cons ht;rw[hd] at hP;simp only[D8] at hP;simp[h1];refine AJJ ?_;refine BK ha (row:=Ag t) (by omega) (by grind[BG]) (Af t) (by omega) ?_;have hb:=P3 k q;have e3:=ih t (A5 ht) (u+Ec k q) (by omega);obtain⟨k',n',x,es⟩:=t;simp only[Ag,CE,Cs] at e3;simp[Ag,R4,S5,R5,S6];refine AD (LK ha q) ?_;rintro v rfl;simp only[Cg,xI];refine⟨⟨Ab,Ab⟩,B8 (by omega) (by omega) ?_⟩;have ec:(u:Int)+(Ec k q:Int)=((u+Ec k q:Nat):Int):=by omega
  rw[ec];refine AD e3 ?_;rintro v rfl;cases hc:Cv (u+Ec k q) (.mk k' n' x es) with
  | false=>
   rw[hc] at hP;simp[QP,QI,Bl,IM,NA,GF,Ir,DQ]
   grind
  | true=>
   rw[hc] at hP;simp[Bl,IM,NA,GF,Ir,DQ];refine AJK ?_;simp only[Cg,xI];refine⟨⟨Ab,Ab⟩,B8 (by omega) (by omega) ?_⟩;have:=D7 (q+1) (m++[[AB k',SS n',AB x,.pv (.list (AZ es))]]) (by omega) (by simpa using hP);simpa using this
mutual
theorem MA:∀(t:Ty),size t<2 ^ 60->∀(u:Nat),u+size t<2 ^ 60->∀(x:AV),A7 t x->AM (env R) 141 [x,AB u] λr=>r=BB (Cv u t)
 | .mk k n i ts,h,u,hu,x,hx=>by
  obtain⟨a,rfl,ha⟩:=hx;simp only[size] at h hu;have ih:=Oo ts (by omega) (u+1) (by omega)
  suffices H:∀Post:AV->Prop,Post (BB (Cv u (.mk k n i ts)))->fL R 0 0 0 (.agg [AB k,SS n,AB i,a]) (AB u) ⟨[],[]⟩ (QP Post) from
   AVn (u0:=.agg [AB k,SS n,AB i,a]) (u1:=AB u) (by simp[ha.close]) (H _ rfl)
  intro Post GZ;refine AJL ?_;simp only[Cv] at GZ
  have go:Post (BB (D8 u k 0 ts))->fM R 0 0 0 (AB u) (.ptr 0 0) ⟨[[AB k,SS n,AB i,a]],[]⟩ (QP Post):=by
   intro hP;refine AJM ?_;simp[ha.A9,AQ];exact Z7 (m:=[]) ha (by omega) (by omega) ih ts.length 0 (by omega) (by grind)
  cases h1:(k==5) with
  | false=>
   rw[h1] at GZ;simp[-beq_iff_eq,ha.ok,h1]
   grind
  | true=>
   rw[h1] at GZ;cases h2:decide ((u:Int)<=i) with
   | true=>
    rw[h2] at GZ;simpa[-beq_iff_eq,-decide_eq_true_eq,QP,QI,ha.ok,h1,h2] using GZ
   | false=>
    rw[h2] at GZ;simp[-beq_iff_eq,-decide_eq_false_iff_not,ha.ok,h1,h2]
    grind
theorem Oo:∀(l:List Ty),AY l<2 ^ 60->∀(w:Nat),w+AY l<2 ^ 60->∀t∈l,∀v,v<=w->AM (env R) 141 [.agg ((Ag t).map .pv),AB v] λr=>r=BB (Cv v t)
 | [],_,_,_,_,h=>by cases h
 | e::l,ho,w,hw,a,h=>by
  simp only[AY] at ho hw;rcases A6.1 h with h' | h'
  .rw[h']
   exact λv hv=>MA e (by omega) v (by omega) _ (A7.BZ e)
  .exact Oo l (by omega) w (by omega) a h'
end
end
theorem J0 {l:List Int} {i:Nat} {n:Int} (h:l[i]?=some n):(AW l)[i]?=some [.sc (.int .i64 n)]:=by grind[AW]
theorem uf {a:AV} {ts:List Ty} (h:Ao a (AZ ts)):Bl a a=true:=by
 rcases h with rfl|rfl <;> simp[Bl,NA,DQ]
theorem LL:∀l:List Int,IV (AW l) (AW l)=true
 | []=>by rfl
 | t::l=>by
  have:=LL l
  grind[AW,IV,Lu,NA,GF]
section
variable {R:Nat->Option (List PV)}
theorem Z8 {l:List Int} {x:AV} (hx:Ao x (AW l)) (hl:l.length<2 ^ 40) (v:Int) {Post:AV->Prop} (hP:∀r m,Ao r (AW m)->m≠[]->m.length<=l.length+1->Post r) (q:Nat) (hq:q<=l.length) :
  fN R 0 0 0 x (AB v) (AB q) ⟨[],[]⟩ (QP Post):=by
 refine AJN ?_;have hlen:(AW l).length=l.length:=BW l;have hall:((AW l).all λr=>r.length==1)=true:=by grind[DV]
 have slc:∀(lo hi:Option AV) (a b:Nat) (s:AL) (K:AV->Prop),Fj 0 lo=some a->Fj l.length hi=some b->a<=b->b<=l.length->K (.pv (.list (((AW l).take b).drop a)))->YG s 1 x lo hi none K:=by
  intro lo hi a b s K h1 h2 h3 h4 hK;have hr:=hx.rowsOf;rcases hx with rfl|rfl
  .simp only[YG,hr,wO,hlen]
   exact⟨a,b,h1,h2,⟨h3,h4,hall⟩,hK⟩
  .simp only[YG,hr,wO,hlen]
   exact⟨a,b,h1,h2,⟨h3,h4,hall⟩,hK⟩
 have hq1:Fj 0 (some (AB q))=some q:=by rfl
 have hq2:Fj l.length (some (AB q))=some q:=by rfl
 have e0:((AW l).take q).drop 0=AW (l.take q):=by simp[*,AW]
 have e1:((AW l).take l.length).drop q=AW (l.drop q):=by grind[AW,List.map_drop]
 simp[Ct,Fg,FJ,wO,Co,CR];refine slc none (some (AB q)) 0 q _ _ rfl hq2 (by omega) hq ?_;rw[e0];have hL:∀(m:List Int),m.length=(AW m).length:=λm=>(BW m).symm
 refine P4 (ts:=[]) (x:=[]) (rows:=[]) (m:=AW (l.take q)) (.inl rfl) (by simp) (by simp) DV (by omega) (De (.inl (.list _)) DV) Ni (by grind) (by grind) ?_;intro a1 x1 ha1;simp[Ct,Fg,FJ,wO,Co,CR,setCells];refine P4 (ts:=[]) (m:=AW [v]) ha1 (by simp) (by grind) DV (by omega) (De (.inl (.AA _)) DV) Ni (by grind) (by grind) ?_;intro a2 x2 S9;refine slc (some (AB q)) none q l.length _ _ hq1 rfl hq (by omega) ?_;rw[e1];have e2:[]++AW (l.take q)++AW [v]=AW (l.take q++[v]):=by simp[AW]
 rw[e2] at S9;refine P4 (ts:=[]) (m:=AW (l.drop q)) S9 (by simp) DV DV (by omega) (De (.inl (.list _)) DV) Ni (by grind) (by grind) ?_;intro a3 x3 ha3;have e3:AW (l.take q++[v])++AW (l.drop q)=AW (l.take q++[v]++l.drop q):=by simp[AW]
 rw[e3] at ha3;refine⟨?_,?_,?_⟩
 .refine slc (some (AB q)) none q l.length _ _ hq1 rfl hq (by omega) ?_
  grind[Bl,NA,LL]
 .refine slc (some (AB q)) none q l.length _ _ hq1 rfl hq (by omega) ?_
  grind[Bl,NA,LL]
 .obtain⟨v',h1,h2⟩:=ha3.A1.closed ([]:List (List AV)) 0
  exact⟨v',h1,hP _ _ h2 (by simp) (by grind)⟩
theorem Z9 {l:List Int} {x:AV} (hx:Ao x (AW l)) (hl:l.length<2 ^ 40) (v:Int) {Post:AV->Prop} (hP:∀r m,Ao r (AW m)->m≠[]->m.length<=l.length+1->Post r) (q:Nat) (hq:q<=l.length) :
  fO R 0 0 0 x (AB v) (AB q) ⟨[],[]⟩ (QP Post):=by
 refine AJO ?_;have hlen:(AW l).length=l.length:=BW l
 by_cases h:q<l.length
 .have h1:((q:Int)<l.length):=by omega
  obtain⟨t,ht⟩:∃t,l[q]?=some t:=⟨_,Ak (by omega)⟩;simp[hx.A9,hlen,h1];refine BK hx (row:=[.sc (.int .i64 t)]) (by omega) (by grind[J0]) rfl (by omega) ?_;simp;refine⟨λ_=>?_,λ_=>Z8 hx hl v hP q hq⟩;simp[QP,QI,hx.close]
  grind
 .have h1:¬ ((q:Int)<l.length):=by omega
  simp[hx.A9,hlen,h1]
  grind[Z8]
theorem oY {l:List Int} {x:AV} (hx:Ao x (AW l)) (hl:l.length<2 ^ 40) (v:Int) {Post:AV->Prop} (hP:∀r m,Ao r (AW m)->m≠[]->m.length<=l.length+1->Post r) :
  ∀(j q:Nat),q+j=l.length->YH R 0 0 0 x (AB v) (AB q) ⟨[],[]⟩ (QP Post):=by
 have hlen:(AW l).length=l.length:=BW l;intro j
 induction j with
 | zero=>
  intro q hq;refine ug ?_;have h1:¬ ((q:Int)<l.length):=by omega
  simp[hx.A9,hlen,h1]
  grind[Z9]
 | succ j ih=>
  intro q hq;refine ug ?_;have h1:((q:Int)<l.length):=by omega
  obtain⟨t,ht⟩:∃t,l[q]?=some t:=⟨_,Ak (by omega)⟩;simp[hx.A9,hlen,h1];refine BK hx (row:=[.sc (.int .i64 t)]) (by omega) (by simp[*,J0]) rfl (by omega) ?_;simp;refine⟨λ_=>?_,λ_=>Z9 hx hl v hP q (by omega)⟩;refine AJP ?_;simp only[Cg,xI];refine⟨⟨Ab,Ab⟩,B8 (by omega) (by omega) ?_⟩;have:=ih (q+1) (by omega)
  grind
theorem TA {l:List Int} {x:AV} (hx:Ao x (AW l)) (hl:l.length<2 ^ 40) (v:Int):AM (env R) 150 [x,AB v] λr=>∃m,Ao r (AW m)/\m≠[]/\m.length<=l.length+1:=by
 refine AVo (u0:=x) (u1:=AB v) (by simp[hx.close]) (AJQ ?_);exact oY hx hl v (λr m h1 h2 h3=>⟨m,h1,h2,h3⟩) l.length 0 (by omega)
theorem P5 {k i:Int} {n:List UInt8} {ts:List Ty} {a:AV} {u:Nat} (ha:Ao a (AZ ts)) (hl:AY ts<2 ^ 39) (hu:u<2 ^ 60)
  (ih:∀t∈ts,∀v,v<=u+1->∀(l:List Int) (y:AV),Ao y (AW l)->l.length+size t<2 ^ 40 ->
   AM (env R) 126 [.agg ((Ag t).map .pv),AB v,y] λr=>∃m,Ao r (AW m)/\(m=[]<->l=[]/\Cv v t=true)/\m.length<=l.length+size t) {Post:AV->Prop} :
  ∀(j q:Nat) (l:List Int) (y:AV),Ao y (AW l)->l.length+AY (ts.drop q)<2 ^ 40->q+j=ts.length ->
   (∀r m,Ao r (AW m)->(m=[]<->l=[]/\D8 u k q (ts.drop q)=true)->m.length<=l.length+AY (ts.drop q)->Post r) ->
   YI R 0 0 0 (AB u) y (.ptr 0 0) (AB q) ⟨[[AB k,SS n,AB i,a]],[]⟩ (QP Post):=by
 have Uv:=BQ ts;intro j
 induction j with
 | zero=>
  intro q l y hy hc hi hP;refine uh ?_;have h1:¬ ((q:Int)<ts.length):=by omega
  simp[ha.A9,AQ,h1];refine AJR ?_;have h2:ts.drop q=[]:=Bt (by omega);rw[h2] at hP;exact⟨y,hy.close _ _ _,hP y l hy (by simp[D8]) (by simp)⟩
 | succ j D7=>
  intro q l y hy hc hi hP;refine uh ?_;have h1:((q:Int)<ts.length):=by omega
  obtain⟨t,ht⟩:∃t,ts[q]?=some t:=⟨_,Ak (by omega)⟩;have hd:=drop_cons ht;rw[hd] at hP hc;simp only[D8,AY] at hP hc;simp[ha.A9,AQ,h1];refine AJS ?_;simp;refine BK ha (row:=Ag t) (by omega) (by grind[BG]) (Af t) (by omega) ?_;have hb:=P3 k q;have e3:=ih t (A5 ht) (u+Ec k q) (by omega) l y hy (by omega);have hrow:=BG ht;obtain⟨k',n',x,es⟩:=t;simp only[Ag,CE,Cs] at e3 hrow;simp[Ag];refine AD (VG ha q) ?_;rintro v rfl;simp only[Cg,xI];refine⟨⟨Ab,Ab⟩,B8 (by omega) (by omega) ?_⟩;have ec:(u:Int)+(Ec k q:Int)=((u+Ec k q:Nat):Int):=by omega
  rw[ec];refine AD e3 ?_;rintro v ⟨m,hm,hmi,hml⟩;simp[Bl,uf ha,IM,NA,Lu,GF,Ir,DQ];refine⟨BK ha (by omega) (by assumption) (by simp) (by omega) (by simp[*,Bl,NA,Lu,GF,Ir,DQ]),AJT ?_⟩;simp only[Cg,xI];refine⟨⟨Ab,Ab⟩,B8 (by omega) (by omega) ?_⟩;have:=D7 (q+1) m v hm (by omega) (by omega) (by grind)
  grind
mutual
theorem free_spec:∀(t:Ty),size t<2 ^ 39->∀(u:Nat),u+size t<2 ^ 60->∀(x:AV),A7 t x->∀(l:List Int) (y:AV),Ao y (AW l)->l.length+size t<2 ^ 40 ->
  AM (env R) 126 [x,AB u,y] λr=>∃m,Ao r (AW m)/\(m=[]<->l=[]/\Cv u t=true)/\m.length<=l.length+size t
 | .mk k n i ts,h,u,hu,x,hx,l,y,hy,hl=>by
  obtain⟨a,rfl,ha⟩:=hx;simp only[size] at h hu hl;have ih:=TB ts (by omega) (u+1) (by omega)
  suffices H:∀Post:AV->Prop,(∀r m,Ao r (AW m)->(m=[]<->l=[]/\Cv u (.mk k n i ts)=true)->m.length<=l.length+size (.mk k n i ts)->Post r)->fP R 0 0 0 (.agg [AB k,SS n,AB i,a]) (AB u) y ⟨[],[]⟩ (QP Post) from
   AVp (u0:=.agg [AB k,SS n,AB i,a]) (u1:=AB u) (u2:=y) (by simp[ha.close,hy.close]) (H _ λr m h1 h2 h3=>⟨m,h1,h2,h3⟩)
  intro Post GZ;refine AJU ?_;simp only[Cv,size] at GZ;cases h1:(k==5) with
  | false=>
   rw[h1] at GZ;simp[-beq_iff_eq,ha.ok,h1];refine fQ ?_;exact P5 ha (by omega) (by omega) ih ts.length 0 l y hy (by grind) (by omega) (λr m a b c=>GZ r m a (by grind) (by grind))
  | true=>
   rw[h1] at GZ;cases h2:decide ((u:Int)<=i) with
   | true=>
    rw[h2] at GZ;simp[-beq_iff_eq,-decide_eq_true_eq,ha.ok,h1,h2,fT];refine AD (TA hy (by omega) _) ?_;rintro v ⟨m,hm,hne,hml⟩;refine fQ ?_;refine P5 ha (by omega) (by omega) ih ts.length 0 m v hm (by grind) (by omega) (λr m' a b c=>GZ r m' a ?_ (by grind))
    grind
   | false=>
    rw[h2] at GZ;simp[-beq_iff_eq,-decide_eq_false_iff_not,ha.ok,h1,h2];refine fQ ?_;exact P5 ha (by omega) (by omega) ih ts.length 0 l y hy (by grind) (by omega) (λr m a b c=>GZ r m a (by grind) (by grind))
theorem TB:∀(l:List Ty),AY l<2 ^ 39->∀(w:Nat),w+AY l<2 ^ 60->∀t∈l,∀v,v<=w->∀(z:List Int) (y:AV),Ao y (AW z)->z.length+size t<2 ^ 40 ->
   AM (env R) 126 [.agg ((Ag t).map .pv),AB v,y] λr=>∃m,Ao r (AW m)/\(m=[]<->z=[]/\Cv v t=true)/\m.length<=z.length+size t
 | [],_,_,_,_,h=>by cases h
 | e::l,ho,w,hw,a,h=>by
  simp only[AY] at ho hw;rcases A6.1 h with h' | h'
  .rw[h']
   exact λv hv z y hy hz=>free_spec e (by omega) v (by omega) _ (A7.BZ e) z y hy hz
  .exact TB l (by omega) w (by omega) a h'
end
theorem IP {t:Ty} (h:size t<2 ^ 38) {x:AV} (hx:A7 t x):AM (env R) 48 [x] λr=>r=BB (Cv 0 t):=by
 obtain⟨k,n,i,ts⟩:=t;obtain⟨a,rfl,ha⟩:=hx;refine e48 (u0:=.agg [AB k,SS n,AB i,a]) (by simp[ha.close]) (AOt ?_);simp[ha.ok]
 have AVq:AM (env R) 96 [.agg [AB k,SS n,AB i,a]] λr=>∃m,Ao r (AW m)/\(m=[]<->Cv 0 (.mk k n i ts)=true):=by
  refine e96 (u0:=.agg [AB k,SS n,AB i,a]) (by simp[ha.close]) (AOu ?_);simp[ha.ok];refine AD (free_spec (.mk k n i ts) (by omega) 0 (by omega) _ ⟨a,rfl,ha⟩ [] (.AA []) (.AA []) (by grind)) ?_;rintro v ⟨m,hm,hmi,_⟩;exact⟨v,hm.close _ _ _,m,hm,by grind⟩
 refine AD AVq ?_;rintro v ⟨m,hm,hmi⟩;simp[QP,QI,hm.A9,BW];cases hc:Cv 0 (.mk k n i ts) with
 | true=>
  grind
 | false=>
  simp[*]
end
mutual
def plain:Ty->Bool
 | .mk k n i ts=>k==5||Cv 0 (.mk k n i ts)||(k==2&&Ft ts)
def Ft:List Ty->Bool
 | []=>true
 | t::l=>plain t&&Ft l
end
section
variable {R:Nat->Option (List PV)}
theorem uj {f:FuncId} {g:Ty->Bool} {ts:List Ty} {y:AV} (hy:Ao y (AZ ts)) (hl:AY ts<2 ^ 60) (hf:∀t∈ts,AM (env R) f [.agg ((Ag t).map .pv)] λr=>r=BB (g t)) {Post:AV->Prop} :
  ∀(j q:Nat),q+j=ts.length->(∀i:Int,decide (0<=i)=(ts.drop q).any g->Post (AB i))->P6 R 0 0 0 y (.func (.func f) [] []) (AB ts.length) (AB q) ⟨[],[]⟩ (QP Post):=by
 have Uv:=BQ ts;intro j
 induction j with
 | zero=>
  intro q hi hP;refine P7 ?_;have h1:¬ ((q:Int)<ts.length):=by omega
  simp[h1];refine fU ?_
  simp_all[QP]
 | succ j D7=>
  intro q hi hP;refine P7 ?_;have h1:((q:Int)<ts.length):=by omega
  obtain⟨t,ht⟩:∃t,ts[q]?=some t:=⟨_,Ak (by omega)⟩;have hd:=drop_cons ht;rw[hd] at hP;simp[h1];refine fV ?_;refine BK hy (row:=Ag t) (by omega) (by simp[*,BG]) (Af t) (by omega) ?_;have e3:=hf t (A5 ht);cases hg:g t with
  | true=>
   rw[hg] at e3;have:=hP q (by grind);obtain⟨k',n',x,es⟩:=t;simp only[Ag,CE,Cs] at e3;simp[Ag];refine AD e3 ?_;simp[*,QP]
  | false=>
   rw[hg] at e3;simp only[OK,hg,Ge] at hP;obtain⟨k',n',x,es⟩:=t;simp only[Ag,CE,Cs] at e3;simp[Ag];refine AD e3 ?_;rintro v rfl;simp;refine fW ?_;simp only[Cg,xI];refine⟨⟨Ab,Ab⟩,B8 (by omega) (by omega) ?_⟩;have:=D7 (q+1) (by omega) hP;simpa using this
theorem NJ {f:FuncId} {g:Ty->Bool} {ts:List Ty} {y:AV} (hy:Ao y (AZ ts)) (hl:AY ts<2 ^ 60) (hf:∀t∈ts,AM (env R) f [.agg ((Ag t).map .pv)] λr=>r=BB (g t)) :
  AM (env R) 94 [y,.func (.func f) [] []] λr=>r=BB (ts.any g):=by
 have hi:AM (env R) 125 [y,.func (.func f) [] []] λr=>∃i:Int,r=AB i/\decide (0<=i)=ts.any g:=by
  refine AVr (by simp[Bo,hy.GO,GO]) (fX ?_);simp[hy.A9,AQ];exact uj hy hl hf ts.length 0 (by omega) (λi h=>⟨i,rfl,by grind⟩)
 refine e94 (by simp[Bo,hy.GO,GO]) (uk ?_);refine AD hi ?_;rintro v ⟨i,rfl,h⟩;simp only[Cg,xI];refine⟨⟨Ab,Ab⟩,_,Fz,?_⟩;rw[<-h]
mutual
theorem YJ:∀(t:Ty),size t<2 ^ 38->∀(x:AV),A7 t x->AM (env R) 161 [x] λr=>r=BB (plain t)
 | .mk k n i ts,h,x,hx=>by
  obtain⟨a,rfl,ha⟩:=hx;have hs:=h;simp only[size] at h;have ih:=MB k n i ts (by omega) a ha;have hc:AM (env R) 141 [.agg [AB k,SS n,AB i,a],AB 0] λr=>r=BB (Cv 0 (.mk k n i ts)):=MA (.mk k n i ts) (by omega) 0 (by omega) _ ⟨a,rfl,ha⟩
  refine AVs (u0:=.agg [AB k,SS n,AB i,a]) (by simp[ha.close]) (AJV ?_);cases h1:(k==5) with
  | true=>simp[-beq_iff_eq,QP,QI,ha.ok,h1,plain]
  | false=>
   simp[-beq_iff_eq,ha.ok,h1];refine AD hc ?_;rintro v rfl;cases h2:Cv 0 (.mk k n i ts) with
   | true=>simp[*,QP,plain]
   | false=>
    cases h3:(k==2) with
    | false=>simp[*,QP,plain]
    | true=>
     have e2:k=2:=by grind
     subst e2;simp;refine AD ih ?_;simp[*,QP,plain]
theorem MB (k:Int) (n:List UInt8) (i:Int):∀(ts:List Ty),AY ts<2 ^ 38->∀(a:AV),Ao a (AZ ts)->AM (env R) 140 [.agg [AB k,SS n,AB i,a]] λr=>r=BB (Ft ts)
 | ts,h,a,ha=>by
  have ih:=Q2 ts h;refine AVt (u0:=.agg [AB k,SS n,AB i,a]) (by simp[ha.close]) (AJW ?_);simp[ha.ok]
  have hf:∀t∈ts,AM (env R) 160 [.agg ((Ag t).map .pv)] λr=>r=BB (!plain t):=by
   intro t ht;have e:=ih t ht;refine AVu (by cases t; rfl) (AJX ?_);obtain⟨k',n',x,es⟩:=t;simp only[Ag,CE,Cs] at e;simp[Ag];refine AD e ?_;simp[*,QP]
  refine AD (NJ ha (by omega) hf) ?_;rintro v rfl
  have:(!ts.any λt=>!plain t)=Ft ts:=by
   clear ih hf ha h
   induction ts with
   | nil=>rfl
   | cons t l ih=>grind[Ft]
  simp[*,QP]
theorem Q2:∀(l:List Ty),AY l<2 ^ 38->∀t∈l,AM (env R) 161 [.agg ((Ag t).map .pv)] λr=>r=BB (plain t)
 | [],_,_,h=>by cases h
 | e::l,ho,a,h=>by
  simp only[AY] at ho;rcases A6.1 h with h' | h'
  .rw[h']
   exact YJ e (by omega) _ (A7.BZ e)
  .exact Q2 l (by omega) a h'
end
theorem aA {k i:Int} {n:List UInt8} {ts:List Ty} {a:AV} (ha:Ao a (AZ ts)) (hl:AY ts<2 ^ 38) (ih:∀t∈ts,AM (env R) 110 [.agg ((Ag t).map .pv)] λr=>r=BB (plain t)) {Post:AV->Prop} :
  ∀(j q:Nat),q+j=ts.length->Post (BB (k==2&&Ft (ts.drop q)))->YK R 0 0 0 (.ptr 0 0) (AB q) ⟨[[AB k,SS n,AB i,a]],[]⟩ (QP Post):=by
 have Uv:=BQ ts;intro j
 induction j with
 | zero=>
  intro q hi hP;refine um ?_;have h1:¬ ((q:Int)<ts.length):=by omega
  simp[ha.A9,AQ,h1];refine AJY ?_
  simp_all[QP,Ft]
 | succ j D7=>
  intro q hi hP;refine um ?_;have h1:((q:Int)<ts.length):=by omega
  obtain⟨t,ht⟩:∃t,ts[q]?=some t:=⟨_,Ak (by omega)⟩;have hd:=drop_cons ht;rw[hd] at hP;simp only[Ft] at hP;simp[ha.A9,AQ,h1];refine AJZ ?_;simp;refine BK ha (row:=Ag t) (by omega) (by simp[*,BG]) (Af t) (by omega) ?_;have e3:=ih t (A5 ht);have hr:=Af t;cases hg:plain t with
  | true=>
   rw[hg] at e3 hP;obtain⟨k',n',x,es⟩:=t;simp only[Ag,CE,Cs] at e3;simp[Ag];refine AD e3 ?_;rintro v rfl;simp;refine AJa ?_;simp only[Cg,xI];refine⟨⟨Ab,Ab⟩,B8 (by omega) (by omega) ?_⟩;have:=D7 (q+1) (by omega) (by simpa using hP);simpa using this
  | false=>
   rw[hg] at e3 hP;obtain⟨k',n',x,es⟩:=t;simp only[Ag,CE,Cs] at e3;simp[Ag];refine AD e3 ?_
   simp_all[QP]
mutual
theorem aB:∀(t:Ty),size t<2 ^ 38->∀(x:AV),A7 t x->AM (env R) 110 [x] λr=>r=BB (plain t)
 | .mk k n i ts,h,x,hx=>by
  obtain⟨a,rfl,ha⟩:=hx;have hs:=h;simp only[size] at h;have ih:=LM ts (by omega);have hc:AM (env R) 48 [.agg [AB k,SS n,AB i,a]] λr=>r=BB (Cv 0 (.mk k n i ts)):=IP hs ⟨a,rfl,ha⟩
  suffices H:∀Post:AV->Prop,Post (BB (plain (.mk k n i ts)))->fY R 0 0 0 (.agg [AB k,SS n,AB i,a]) ⟨[],[]⟩ (QP Post) from
   AVv (u0:=.agg [AB k,SS n,AB i,a]) (by simp[ha.close]) (H _ rfl)
  intro Post GZ;refine AJb ?_;simp only[plain] at GZ;cases h1:(k==5) with
  | true=>
   rw[h1] at GZ;simpa[-beq_iff_eq,QP,QI,ha.ok,h1] using GZ
  | false=>
   rw[h1] at GZ;simp[-beq_iff_eq,ha.ok,h1];refine AD hc ?_;rintro v rfl;cases h2:Cv 0 (.mk k n i ts) with
   | true=>
    simp_all[QP]
   | false=>
    rw[h2] at GZ;simp[-beq_iff_eq];refine AJc ?_;exact aA ha (by omega) ih ts.length 0 (by omega) (by grind)
theorem LM:∀(l:List Ty),AY l<2 ^ 38->∀t∈l,AM (env R) 110 [.agg ((Ag t).map .pv)] λr=>r=BB (plain t)
 | [],_,_,h=>by cases h
 | e::l,ho,a,h=>by
  simp only[AY] at ho;rcases A6.1 h with h' | h'
  .rw[h']
   exact aB e (by omega) _ (A7.BZ e)
  .exact LM l (by omega) a h'
end
end
def isLet (n:Int):Bool:=(decide (97<=n)&&decide (n<=122))||(decide (65<=n)&&decide (n<=90))
def TC (n:Int):Bool:=decide (48<=n)&&decide (n<=57)
def P8 (n:Int):Bool:=isLet n||TC n||n==95||n==45
abbrev BY (n:Int):AV:=.pv (.sc (.int .u8 n))
def M5 (l:List UInt8):Bool:=l != []&&decide (l.length<=24)&&(match l with|[]=>false|c::_=>isLet c.toNat)&&l.all λc=>!((c.toNat:Int)==45)&&P8 c.toNat
def MC:List (List UInt8):=[[65,110,121],[78,101,118,101,114],[116,117,112,108,101],[117,110,105,111,110],[101,120,105,115,116,115]]
section
variable {R:Nat->Option (List PV)}
theorem Q3 (n:Int):AM (env R) 155 [BY n] λr=>r=BB (isLet n):=by
 refine AVw rfl (AJd ?_)
 by_cases h1:97<=n <;> by_cases h2:n<=122 <;> by_cases h3:65<=n <;> by_cases h4:n<=90 <;> simp[QP,QI,isLet,h1,h2,h3,h4]
theorem Oq (n:Int):AM (env R) 135 [BY n] λr=>r=BB (isLet n):=by
 refine AVx rfl (AJe ?_)
 by_cases h1:97<=n <;> by_cases h2:n<=122 <;> by_cases h3:65<=n <;> by_cases h4:n<=90 <;> simp[QP,QI,isLet,h1,h2,h3,h4]
theorem fZ (n:Int):AM (env R) 173 [BY n] λr=>r=BB (TC n):=by
 refine AVy rfl (AJf ?_)
 by_cases h1:48<=n <;> by_cases h2:n<=57 <;> simp[QP,QI,TC,h1,h2]
theorem aC (n:Int):AM (env R) 154 [BY n] λr=>r=BB (TC n):=by
 refine AVz rfl (AJg ?_)
 by_cases h1:48<=n <;> by_cases h2:n<=57 <;> simp[QP,QI,TC,h1,h2]
theorem VH (n:Int):AM (env R) 158 [BY n] λr=>r=BB (P8 n):=by
 refine AV0 rfl (AJh ?_);refine AD (Q3 n) ?_;rintro v rfl;cases h1:isLet n with
 | true=>simp[QP,QI,P8,h1]
 | false=>
  simp;refine AD (fZ n) ?_;rintro v rfl;cases h2:TC n with
  | true=>simp[QP,QI,P8,h2]
  | false=>cases h3:(n==95) <;> cases h4:(n==45) <;> simp[-beq_iff_eq,-beq_eq_false_iff_ne,QP,QI,P8,h1,h2,h3,h4]
theorem TD (n:Int):AM (env R) 136 [BY n] λr=>r=BB (P8 n):=by
 refine AV1 rfl (AJi ?_);refine AD (Oq n) ?_;rintro v rfl;cases h1:isLet n with
 | true=>simp[QP,QI,P8,h1]
 | false=>
  simp;refine AD (aC n) ?_;rintro v rfl;cases h2:TC n with
  | true=>simp[QP,QI,P8,h2]
  | false=>cases h3:(n==95) <;> cases h4:(n==45) <;> simp[-beq_iff_eq,-beq_eq_false_iff_ne,QP,QI,P8,h1,h2,h3,h4]
theorem TE (n:Int):AM (env R) 157 [BY n] λr=>r=BB (!(n==45)&&P8 n):=by
 refine AV2 rfl (AJj ?_);cases h:(n==45) with
 | true=>simp[-beq_iff_eq,-beq_eq_false_iff_ne,QP,QI,h,bne]
 | false=>
  simp[-beq_iff_eq,-beq_eq_false_iff_ne,h,bne];refine AD (VH n) ?_;rintro v rfl;simp[-beq_iff_eq,-beq_eq_false_iff_ne,QP,QI]
theorem fc {f:FuncId} {g:Int->Bool} {l:List UInt8} (hl:l.length<2 ^ 60) (hf:∀n:Int,AM (env R) f [BY n] λr=>r=BB (g n)) {Post:AV->Prop} :
  ∀(j q:Nat),q+j=l.length->Post (BB ((l.drop q).all λc=>g c.toNat))->YL R 0 0 0 (SS l) (.func (.func f) [] []) (AB q) ⟨[],[]⟩ (QP Post):=by
 intro j
 induction j with
 | zero=>
  intro q hi hP;refine uo ?_;have h1:¬ ((q:Int)<l.length):=by omega
  simp[h1];refine AJk ?_;have h2:l.drop q=[]:=Bt (by omega);rw[h2] at hP;simpa[QP,QI] using hP
 | succ j D7=>
  intro q hi hP;refine uo ?_;have h1:((q:Int)<l.length):=by omega
  obtain⟨c,hc⟩:∃c,l[q]?=some c:=⟨_,Ak (by omega)⟩;rw[drop_cons hc] at hP;simp[h1];refine AJl ?_;refine⟨by omega,c,by simpa using hc,?_⟩;refine AD (hf c.toNat) ?_;rintro v rfl;cases hg:g c.toNat with
  | true=>
   rw[HA,hg] at hP;simp;refine AJm ?_;simp only[Cg,xI];refine⟨⟨Ab,Ab⟩,B8 (by omega) (by omega) ?_⟩;have:=D7 (q+1) (by omega) (by simpa using hP);simpa using this
  | false=>
   rw[HA,hg] at hP;simpa[QP,QI] using hP
theorem YM {l:List UInt8} (hl:l.length<2 ^ 60):AM (env R) 138 [SS l] λr=>r=BB (M5 l):=by
 have ev:AM (env R) 156 [SS l,.func (.func 157) [] []] λr=>r=BB (l.all λc=>!((c.toNat:Int)==45)&&P8 c.toNat):=by
  refine AV3 (u0:=SS l) (u1:=.func (.func 157) [] []) (by simp) (AJn ?_);exact fc hl TE l.length 0 (by omega) (by simp)
 refine AV4 (u0:=SS l) (by simp) (AJo ?_);cases l with
 | nil=>simp[QP,QI,M5]
 | cons c l=>
  by_cases h1:(c::l).length<=24
  .have Zn:(((c::l).length:Nat):Int)<=24:=by omega
   have fe:((l.length:Int)+1<=24):=by simpa using Zn
   simp[fe,MD];refine AD (Q3 c.toNat) ?_;rintro v rfl;cases h2:isLet c.toNat with
   | false=>simp[QP,QI,M5,h2]
   | true=>
    simp;refine AD ev ?_;rintro v rfl;have:l.length+1<=24:=by simpa using h1
    simp[QP,QI,M5,h2,this]
  .have fe:¬ ((l.length:Int)+1<=24):=by simp at h1; omega
   have:¬ (l.length+1<=24):=by simpa using h1
   simp[QP,QI,fe,M5,this]
theorem aD {l:List UInt8} (hl:l.length<2 ^ 60) {Post:AV->Prop} :
  ∀(j q:Nat),q+j=l.length->Post (BB ((l.drop q).all λc=>!((c.toNat:Int)==45)&&P8 c.toNat))->YN R 0 0 0 (SS l) (AB q) ⟨[],[]⟩ (QP Post):=by
 intro j
 induction j with
 | zero=>
  intro q hi hP;refine uq ?_;have h1:¬ ((q:Int)<l.length):=by omega
  simp[h1];refine AJp ?_;have h2:l.drop q=[]:=Bt (by omega);rw[h2] at hP;simpa[QP,QI] using hP
 | succ j D7=>
  intro q hi hP;refine uq ?_;have h1:((q:Int)<l.length):=by omega
  obtain⟨c,hc⟩:∃c,l[q]?=some c:=⟨_,Ak (by omega)⟩;rw[drop_cons hc] at hP;simp[h1];refine AJq ?_;refine⟨by omega,c,by simpa using hc,?_⟩;refine AD (TD c.toNat) ?_;rintro v rfl;cases hg:P8 c.toNat with
  | false=>
   rw[HA,hg,Bool.and_false,Gd] at hP;simpa[QP,QI] using hP
  | true=>
   rw[HA,hg,Ie] at hP;simp;refine⟨by omega,c,by simpa using hc,?_⟩
   by_cases h45:((c.toNat:Int)=45)
   .have AJr:((c.toNat:Int)==45)=true:=by simpa using h45
    rw[AJr,MY,Gd] at hP;simp[QP,QI];exact⟨λ_=>hP,λh=>absurd h45 h⟩
   .have AJr:((c.toNat:Int)==45)=false:=by simpa using h45
    rw[AJr,XX,Fb] at hP;simp;refine⟨λh=>absurd h h45,λ_=>AJs ?_⟩;simp only[Cg,xI];refine⟨⟨Ab,Ab⟩,B8 (by omega) (by omega) ?_⟩;have:=D7 (q+1) (by omega) (by simpa using hP);simpa using this
theorem aE {l:List UInt8} (hl:l.length<2 ^ 60):AM (env R) 108 [SS l] λr=>r=BB (M5 l):=by
 refine AV5 (u0:=SS l) (by simp) (AJt ?_);cases l with
 | nil=>simp[QP,QI,M5]
 | cons c l=>
  have h0:¬ ((l.length:Int)+1<1):=by omega
  by_cases h1:l.length+1<=24
  .have fe:¬ (24<(l.length:Int)+1):=by omega
   simp[h0,fe,MD];refine AD (Oq c.toNat) ?_;rintro v rfl;cases h2:isLet c.toNat with
   | false=>simp[QP,QI,M5,h2]
   | true=>
    simp;refine AJu ?_;refine aD hl (c::l).length 0 (by omega) ?_;simp[M5,h2,h1]
  .have fe:(24<(l.length:Int)+1):=by omega
   simp[QP,QI,h0,fe,M5,h1]
theorem YO {l:List UInt8}:AM (env R) 109 [SS l] λr=>r=BB (MC.contains l):=by
 refine AV6 (u0:=SS l) (by simp) (AJv ?_)
 by_cases h1:l=[65,110,121]
 .subst h1; simp[QP,QI,MC]
 by_cases h2:l=[78,101,118,101,114]
 .subst h2; simp[QP,QI,MC]
 by_cases h3:l=[116,117,112,108,101]
 .subst h3; simp[QP,QI,MC]
 by_cases h4:l=[117,110,105,111,110]
 .subst h4; simp[QP,QI,MC]
 by_cases h5:l=[101,120,105,115,116,115]
 .subst h5; simp[QP,QI,MC]
 have b1:(l==[65,110,121])=false:=by simpa using h1
 have b2:(l==[78,101,118,101,114])=false:=by simpa using h2
 have b3:(l==[116,117,112,108,101])=false:=by simpa using h3
 have b4:(l==[117,110,105,111,110])=false:=by simpa using h4
 have b5:(l==[101,120,105,115,116,115])=false:=by simpa using h5
 have b:MC.contains l=false:=by simp[MC,h1,h2,h3,h4,h5]
 simp[-beq_iff_eq,-beq_eq_false_iff_ne,-List.contains_eq_mem,QP,QI,b,b1,b2,b3,b4,b5]
def EN (l:List (List UInt8)):List (List PV):=l.map λs=>[.sc (.string ⟨s.toArray⟩)]
theorem Q5 (l:List (List UInt8)):(EN l).length=l.length:=by simp[EN]
theorem aF {l:List (List UInt8)} {i:Nat} {n:List UInt8} (h:l[i]?=some n):(EN l)[i]?=some [.sc (.string ⟨n.toArray⟩)]:=by simp[EN,h]
theorem fh {l:List (List UInt8)} {w:List UInt8} {y:AV} (hy:Ao y (EN l)) (hl:l.length<2 ^ 60) {Post:AV->Prop} :
  ∀(j q:Nat),q+j=l.length->(∀i:Int,decide (0<=i)=(l.drop q).contains w->Post (AB i))->YP R 0 0 0 y (SS w) (AB l.length) (AB q) ⟨[],[]⟩ (QP Post):=by
 intro j
 induction j with
 | zero=>
  intro q hi hP;refine ur ?_;have h1:¬ ((q:Int)<l.length):=by omega
  simp[h1];refine AJw ?_;have h2:l.drop q=[]:=Bt (by omega);rw[h2] at hP;have:=hP (-1) (by simp);simpa[QP,QI] using this
 | succ j D7=>
  intro q hi hP;refine ur ?_;have h1:((q:Int)<l.length):=by omega
  obtain⟨t,ht⟩:∃t,l[q]?=some t:=⟨_,Ak (by omega)⟩;rw[drop_cons ht] at hP;simp[h1];refine AJx ?_;refine BK hy (row:=[.sc (.string ⟨t.toArray⟩)]) (by omega) (by simpa using aF ht) rfl (by omega) ?_
  by_cases hw:w=t
  .subst hw
   have:=hP q (by simp);simpa[QP,QI] using this
  .simp[hw]
   refine AJy ?_;simp only[Cg,xI];refine⟨⟨Ab,Ab⟩,B8 (by omega) (by omega) ?_⟩;have:=D7 (q+1) (by omega) (λi h=>hP i (by rw[h]; simp[hw]));simpa using this
theorem TF {l:List (List UInt8)} {w:List UInt8} {y:AV} (hy:Ao y (EN l)) (hl:l.length<2 ^ 60):AM (env R) 139 [y,SS w] λr=>r=BB (l.contains w):=by
 have hi:AM (env R) 159 [y,SS w] λr=>∃i:Int,r=AB i/\decide (0<=i)=l.contains w:=by
  refine AV7 (u0:=y) (u1:=SS w) (by simp[hy.close]) (AJz ?_);simp[hy.A9,Q5];exact fh hy hl l.length 0 (by omega) (λi h=>⟨i,rfl,by simpa using h⟩)
 refine AV8 (u0:=y) (u1:=SS w) (by simp[hy.close]) (AJ0 ?_);refine AD hi ?_;rintro v ⟨i,rfl,h⟩;simp only[Cg,xI];refine⟨⟨Ab,Ab⟩,_,Fz,?_⟩;rw[<-h]
end
def TG:List Ty->Bool
 | []=>false
 | t::_=>Cv 0 t
def shape (k:Int) (n:List UInt8) (i:Int) (ts:List Ty):Bool:=
 bif k==0||k==1 then ts.length==0
 else bif k==2 then M5 n&&!MC.contains n&&decide (ts.length<=6)&&Ft ts
 else bif k==3 then decide (ts.length<=6)
 else bif k==4 then decide (2<=ts.length)
 else bif k==5 then ts.length==0&&decide (0<=i)&&decide (i<=200)
 else bif k==6 then ts.length==2&&TG ts
 else false
def root (k:Int) (n:List UInt8) (i:Int) (ts:List Ty):Bool:=(k==2||n==[])&&(k==5||i==0)&&shape k n i ts
mutual
def valid:Ty->Bool
 | .mk k n i ts=>root k n i ts&&BT ts
def BT:List Ty->Bool
 | []=>true
 | t::l=>valid t&&BT l
end
def YE (n:List UInt8):Prop:=n.length<2 ^ 60
mutual
def Vt:Ty->Prop
 | .mk _ n _ ts=>YE n/\RO ts
def RO:List Ty->Prop
 | []=>True
 | t::l=>Vt t/\RO l
end
section
variable {R:Nat->Option (List PV)}
theorem AJ1:(env R).G 2=some (Gh MC):=rfl
theorem oZ:Gh MC=[.list (EN MC)]:=rfl
section
variable {k i:Int} {n:List UInt8} {ts:List Ty} {a:AV} {Post:AV->Prop}
theorem sh0 (ha:Ao a (AZ ts)) (hP:Post (BB (ts.length==0))):KD R 0 0 0 (.ptr 0 0) (AB k) (BB true) ⟨[[AB k,SS n,AB i,a]],[]⟩ (QP Post):=by
 refine Nj ⟨λ_=>?_,by simp⟩;have e:((ts.length:Int)==0)=(ts.length==0):=by grind
 simpa[-beq_iff_eq,-beq_eq_false_iff_ne,QP,QI,ha.A9,AQ,e] using hP
theorem sh2 (ha:Ao a (AZ ts)) (hs:AY ts<2 ^ 38) (hn:YE n) (hP:Post (BB (M5 n&&!MC.contains n&&decide (ts.length<=6)&&Ft ts))) :
  KD R 0 0 0 (.ptr 0 0) (AB 2) (BB false) ⟨[[AB 2,SS n,AB i,a]],[]⟩ (QP Post):=by
 have hlen:=BQ ts;refine Nj ⟨by simp,λ_=>⟨⟨rfl,rfl⟩,⟨λ_=>?_,by simp⟩⟩⟩;simp only[Cl,Bs,Lf,Lg,AO,Cw,FJ,wO,setCells,Ci,FC,Dn,Dh,Ax,alive,Cg,GD,I1,oU,A8,DF,BO,Gx,Dv,Cz,tM,oV,okB,tN,tP,tQ,tR,tS,eC,tT,tU,tV,tW,tX,tY,tZ,td,th,tj,tq,okF,uA,uB,uC,uD,uE,YE,uF,S0,S1,S2,S3,uG,uH,uI,uJ,rG,uK,uL,uM,uN,uO,Fz,uP,rH,uQ,uR,uS,uT,uU,uV,uW,uX,uY,uZ,Co,xI,xL,xM,xF,xG,g0,g1,lf];simp only[Jj,Ig,CT,CP,F2];refine⟨Ab,AD (YM hn) ?_⟩;rintro v rfl;cases c1:M5 n with
 | false=>
  rw[c1] at hP;simpa[QP,QI] using hP
 | true=>
  simp[AJ1,oZ];refine AD (TF (.list _) (by simp[MC])) ?_;rintro v rfl;cases c2:MC.contains n with
  | true=>
   simp_all[QP]
  | false=>
   rw[c1,c2] at hP
   by_cases c3:ts.length<=6
   .have c3':((ts.length:Int)<=6):=by omega
    rw[Ap c3] at hP;simp[ha.A9,AQ,c3'];refine AD (MB 2 n i ts hs a ha) ?_
    simp_all[QP]
   .have c3':¬ ((ts.length:Int)<=6):=by omega
    rw[Aw c3] at hP;simpa[QP,QI,ha.A9,AQ,c3'] using hP
theorem sh3 (ha:Ao a (AZ ts)) (hP:Post (BB (decide (ts.length<=6)))):KD R 0 0 0 (.ptr 0 0) (AB 3) (BB false) ⟨[[AB 3,SS n,AB i,a]],[]⟩ (QP Post):=by
 refine Nj ⟨by simp,λ_=>⟨⟨rfl,rfl⟩,⟨by simp,λ_=>⟨⟨rfl,rfl⟩,⟨λ_=>?_,by simp⟩⟩⟩⟩⟩;have e:decide ((ts.length:Int)<=6)=decide (ts.length<=6):=by grind
 simpa[-decide_eq_true_eq,QP,QI,ha.A9,AQ,e] using hP
theorem sh4 (ha:Ao a (AZ ts)) (hP:Post (BB (decide (2<=ts.length)))):KD R 0 0 0 (.ptr 0 0) (AB 4) (BB false) ⟨[[AB 4,SS n,AB i,a]],[]⟩ (QP Post):=by
 refine Nj ⟨by simp,λ_=>⟨⟨rfl,rfl⟩,⟨by simp,λ_=>⟨⟨rfl,rfl⟩,⟨by simp,λ_=>⟨⟨rfl,rfl⟩,⟨λ_=>?_,by simp⟩⟩⟩⟩⟩⟩⟩;have e:decide (2<=(ts.length:Int))=decide (2<=ts.length):=by grind
 simpa[-decide_eq_true_eq,QP,QI,ha.A9,AQ,e] using hP
theorem sh5 (ha:Ao a (AZ ts)) (hP:Post (BB (ts.length==0&&decide (0<=i)&&decide (i<=200)))):KD R 0 0 0 (.ptr 0 0) (AB 5) (BB false) ⟨[[AB 5,SS n,AB i,a]],[]⟩ (QP Post):=by
 refine Nj ⟨by simp,λ_=>⟨⟨rfl,rfl⟩,⟨by simp,λ_=>⟨⟨rfl,rfl⟩,⟨by simp,λ_=>⟨⟨rfl,rfl⟩,⟨by simp,λ_=>⟨⟨rfl,rfl⟩,⟨λ_=>?_,by simp⟩⟩⟩⟩⟩⟩⟩⟩⟩;cases ts with
 | cons t l=>
  have c':¬ ((l.length:Int)+1=0):=by omega
  have b':((l.length:Int)+1==0)=false:=by rfl
  simpa[-beq_iff_eq,-beq_eq_false_iff_ne,QP,QI,ha.A9,AQ,b'] using hP
 | nil=>
  by_cases c1:0<=i
  .by_cases c2:i<=200
   .simpa[QP,QI,ha.A9,AQ,c1,c2] using hP
   .simpa[QP,QI,ha.A9,AQ,c1,c2] using hP
  .simpa[QP,QI,ha.A9,AQ,c1] using hP
theorem sh6 (ha:Ao a (AZ ts)) (hs:AY ts<2 ^ 38) (hP:Post (BB (ts.length==2&&TG ts))):KD R 0 0 0 (.ptr 0 0) (AB 6) (BB false) ⟨[[AB 6,SS n,AB i,a]],[]⟩ (QP Post):=by
 refine Nj ⟨by simp,λ_=>⟨⟨rfl,rfl⟩,⟨by simp,λ_=>⟨⟨rfl,rfl⟩,⟨by simp,λ_=>⟨⟨rfl,rfl⟩,⟨by simp,λ_=>⟨⟨rfl,rfl⟩,⟨by simp,λ_=>⟨⟨rfl,rfl⟩,⟨λ_=>?_,by simp⟩⟩⟩⟩⟩⟩⟩⟩⟩⟩⟩
 by_cases c:ts.length=2
 .have c':((ts.length:Int)=2):=by omega
  obtain⟨t,l,rfl⟩:∃t l,ts=t::l:=by
   cases ts with
   | nil=>grind
   | cons t l=>simp
  simp only[AY] at hs;have e3:AM (env R) 141 [.agg ((Ag t).map .pv),AB 0] λr=>r=BB (Cv 0 t):=MA t (by omega) 0 (by omega) _ (A7.BZ t)
  have hP':Post (BB (Cv 0 t)):=by grind[TG]
  have c'':((l.length:Int)+1=2):=by grind
  simp[ha.A9,AQ,c''];refine BK ha (row:=Ag t) (by omega) (by rfl) (Af t) (by omega) ?_;obtain⟨k',n',x,es⟩:=t;simp only[Ag,CE,Cs] at e3;simp[Ag];refine AD e3 ?_;simp[*,QP]
 .have c':¬ ((ts.length:Int)=2):=by omega
  have b:(ts.length==2)=false:=by grind
  rw[b] at hP;have b':((ts.length:Int)==2)=false:=by grind
  simpa[-beq_iff_eq,-beq_eq_false_iff_ne,QP,QI,ha.A9,AQ,b'] using hP
theorem sh7 (h2:¬ k=2) (h3:¬ k=3) (h4:¬ k=4) (h5:¬ k=5) (h6:¬ k=6) (hP:Post (BB false)):KD R 0 0 0 (.ptr 0 0) (AB k) (BB false) ⟨[[AB k,SS n,AB i,a]],[]⟩ (QP Post):=by
 refine Nj ⟨by simp,λ_=>⟨⟨rfl,rfl⟩,⟨by grind,λ_=>⟨⟨rfl,rfl⟩,⟨by grind,λ_=>⟨⟨rfl,rfl⟩,⟨by grind,λ_=>⟨⟨rfl,rfl⟩,⟨by grind,λ_=>⟨⟨rfl,rfl⟩,⟨by grind,λ_=>AJ2 ?_⟩⟩⟩⟩⟩⟩⟩⟩⟩⟩⟩;exact⟨_,Fz,hP⟩
theorem LN (ha:Ao a (AZ ts)) (hs:AY ts<2 ^ 38) (hn:YE n) (hP:Post (BB (shape k n i ts))):fk R 0 0 0 (.ptr 0 0) ⟨[[AB k,SS n,AB i,a]],[]⟩ (QP Post):=by
 refine AJ3 ?_
 by_cases h0:k=0
 .subst h0
  simp
  grind[sh0,shape]
 by_cases h1:k=1
 .subst h1
  simp
  grind[sh0,shape]
 have b0:(k==0)=false:=by grind
 have b1:(k==1)=false:=by grind
 simp[h0]
 grind[sh2,shape,sh3,sh4,sh5,sh6,sh7]
end
theorem TH {k i:Int} {n:List UInt8} {ts:List Ty} {a:AV} (ha:Ao a (AZ ts)) (hs:AY ts<2 ^ 38) (hn:YE n):AM (env R) 116 [.agg [AB k,SS n,AB i,a]] λr=>r=BB (root k n i ts):=by
 suffices H:∀Post:AV->Prop,Post (BB (root k n i ts))->fq R 0 0 0 (.agg [AB k,SS n,AB i,a]) ⟨[],[]⟩ (QP Post) from
  AV9 (u0:=.agg [AB k,SS n,AB i,a]) (by simp[ha.close]) (H _ rfl)
 intro Post hP;refine AJ4 ?_;unfold root at hP;cases b2:(k==2) with
 | true=>
  have e2:k=2:=by grind
  subst e2
  by_cases hi:i=0
  .subst hi
   simp[ha.ok]
   grind[LN]
  .have bi:(i==0)=false:=by grind
   rw[bi] at hP;simpa[QP,QI,ha.ok,hi,bne,bi] using hP
 | false=>
  have e2:¬ k=2:=by grind
  rw[b2] at hP
  by_cases hn0:n=[]
  .subst hn0
   cases b5:(k==5) with
   | true=>
    have e5:k=5:=by grind
    subst e5;simp[ha.ok]
    grind[LN]
   | false=>
    have e5:¬ k=5:=by grind
    rw[b5] at hP
    by_cases hi:i=0
    .subst hi
     simp[ha.ok,e2,e5,bne,b2,b5]
     grind[LN]
    .have bi:(i==0)=false:=by grind
     rw[bi] at hP;simpa[QP,QI,ha.ok,e2,e5,hi,bne,b2,b5,bi] using hP
  .have bn:(n==[])=false:=by grind
   rw[bn] at hP;simpa[QP,QI,ha.ok,e2,hn0,bne,b2,bn] using hP
end
def verdict (t:Ty):Int:=bif decide (200<size t)||decide (12<depth t) then 4 else bif valid t then 0 else 2
section
variable {R:Nat->Option (List PV)}
mutual
theorem Lh:∀(t:Ty),size t<2 ^ 38->Vt t->∀(x:AV),A7 t x->AM (env R) 86 [x] λr=>r=BB (valid t)
 | .mk k n i ts,h,ho,x,hx=>by
  obtain⟨a,rfl,ha⟩:=hx;simp only[size] at h;simp only[Vt] at ho;have ih:=Kf ts (by omega) ho.2;refine e86 (u0:=.agg [AB k,SS n,AB i,a]) (by simp[ha.close]) (AOw ?_);simp[ha.ok];refine AD (TH ha (by omega) ho.1) ?_;rintro v rfl;cases hr:root k n i ts with
  | false=>simp[*,QP,valid]
  | true=>
   have hf:∀t∈ts,AM (env R) 117 [.agg ((Ag t).map .pv)] λr=>r=BB (!valid t):=by
    intro t ht;have e:=ih t ht;refine AWA (by cases t; rfl) (AJ5 ?_);obtain⟨k',n',x,es⟩:=t;simp only[Ag,CE,Cs] at e;simp[Ag];refine AD e ?_;simp[*,QP]
   simp;refine AD (NJ ha (by omega) hf) ?_;rintro v rfl
   have:(!ts.any λt=>!valid t)=BT ts:=by
    clear ih hf ha h hr ho
    induction ts with
    | nil=>rfl
    | cons t l ih=>grind[BT]
   simp[*,QP,valid]
theorem Kf:∀(l:List Ty),AY l<2 ^ 38->RO l->∀t∈l,AM (env R) 86 [.agg ((Ag t).map .pv)] λr=>r=BB (valid t)
 | [],_,_,_,h=>by cases h
 | e::l,ho,hk,a,h=>by
  simp only[AY] at ho;simp only[RO] at hk;rcases A6.1 h with h' | h'
  .rw[h']
   exact Lh e (by omega) hk.1 _ (A7.BZ e)
  .exact Kf l (by omega) hk.2 a h'
end
section
variable {k i:Int} {n:List UInt8} {ts:List Ty} {a:AV} {Post:AV->Prop}
theorem ACy (ha:Ao a (AZ ts)) (hl:AY ts<2 ^ 38) (ih:∀t∈ts,AM (env R) 73 [.agg ((Ag t).map .pv)] λr=>r=BB (valid t)) :
  ∀(j q:Nat),q+j=ts.length->Post (BB (BT (ts.drop q)))->jz R 0 0 0 (.ptr 0 0) (AB ts.length) (AB q) ⟨[[AB k,SS n,AB i,a]],[]⟩ (QP Post):=by
 have Uv:=BQ ts;intro j
 induction j with
 | zero=>
  intro q hi hP;refine AEw ?_;have h1:¬ ((q:Int)<ts.length):=by omega
  simp[h1];refine AOx ?_
  simp_all[QP,BT]
 | succ j D7=>
  intro q hi hP;refine AEw ?_;have h1:((q:Int)<ts.length):=by omega
  obtain⟨t,ht⟩:∃t,ts[q]?=some t:=⟨_,Ak (by omega)⟩;have hd:=drop_cons ht;rw[hd] at hP;simp only[BT] at hP;simp[h1];refine AOy ?_;simp;refine BK ha (row:=Ag t) (by omega) (by simp[*,BG]) (Af t) (by omega) ?_;have e3:=ih t (A5 ht);cases hg:valid t with
  | true=>
   rw[hg] at e3 hP;obtain⟨k',n',x,es⟩:=t;simp only[Ag,CE,Cs] at e3;simp[Ag];refine AD e3 ?_;rintro v rfl;simp;refine AJ6 ?_;simp only[Cg,xI];refine⟨⟨Ab,Ab⟩,B8 (by omega) (by omega) ?_⟩;have:=D7 (q+1) (by omega) (by simpa using hP);simpa using this
  | false=>
   rw[hg] at e3 hP;obtain⟨k',n',x,es⟩:=t;simp only[Ag,CE,Cs] at e3;simp[Ag];refine AD e3 ?_
   simp_all[QP]
theorem R6 (ha:Ao a (AZ ts)) (hl:AY ts<2 ^ 38) (ih:∀t∈ts,AM (env R) 73 [.agg ((Ag t).map .pv)] λr=>r=BB (valid t)) (hP:Post (BB (BT ts))) :
  Vu R 0 0 0 (.ptr 0 0) (AB ts.length) ⟨[[AB k,SS n,AB i,a]],[]⟩ (QP Post):=
 AOz (ACy ha hl ih ts.length 0 (by omega) (by grind))
theorem uu (ha:Ao a (AZ ts)) (hl:AY ts<2 ^ 38) (ih:∀t∈ts,AM (env R) 73 [.agg ((Ag t).map .pv)] λr=>r=BB (valid t)) :
  ∀(j q:Nat),q+j=ts.length->Post (BB (Ft (ts.drop q)&&BT ts))->j0 R 0 0 0 (.ptr 0 0) (AB ts.length) (AB q) ⟨[[AB k,SS n,AB i,a]],[]⟩ (QP Post):=by
 have Uv:=BQ ts;intro j
 induction j with
 | zero=>
  intro q hi hP;refine AEx ?_
  simp_all[R6,Ft]
 | succ j D7=>
  intro q hi hP;refine AEx ?_;have h1:((q:Int)<ts.length):=by omega
  obtain⟨t,ht⟩:∃t,ts[q]?=some t:=⟨_,Ak (by omega)⟩;have hd:=drop_cons ht;rw[hd] at hP;simp only[Ft] at hP;simp[h1];refine AO0 ?_;simp;refine BK ha (row:=Ag t) (by omega) (by simp[*,BG]) (Af t) (by omega) ?_;have e3:=LM (R:=R) ts hl t (A5 ht);cases hg:plain t with
  | true=>
   rw[hg] at e3 hP;obtain⟨k',n',x,es⟩:=t;simp only[Ag,CE,Cs] at e3;simp[Ag];refine AD e3 ?_;rintro v rfl;simp;refine AJ7 ?_;simp only[Cg,xI];refine⟨⟨Ab,Ab⟩,B8 (by omega) (by omega) ?_⟩;have:=D7 (q+1) (by omega) (by simpa using hP);simpa using this
  | false=>
   rw[hg] at e3 hP;obtain⟨k',n',x,es⟩:=t;simp only[Ag,CE,Cs] at e3;simp[Ag];refine AD e3 ?_
   simp_all[QP]
theorem wf0 (hP:Post (BB (ts.length==0&&BT ts))):NK R 0 0 0 (.ptr 0 0) (AB ts.length) (AB k) (BB true) ⟨[[AB k,SS n,AB i,a]],[]⟩ (QP Post):=by
 refine TI ⟨λ_=>?_,by simp⟩;cases ts with
 | nil=>simp_all[QP,BT]
 | cons t l=>
  have b:((l.length:Int)+1==0)=false:=by rfl
  simpa[-beq_iff_eq,-beq_eq_false_iff_ne,QP,QI,b] using hP
theorem wf5 (hP:Post (BB (ts.length==0&&decide (0<=i)&&decide (i<=200)&&BT ts))):NK R 0 0 0 (.ptr 0 0) (AB ts.length) (AB 5) (BB false) ⟨[[AB 5,SS n,AB i,a]],[]⟩ (QP Post):=by
 refine TI ⟨by simp,λ_=>⟨⟨rfl,rfl⟩,⟨λ_=>?_,by simp⟩⟩⟩;cases ts with
 | cons t l=>
  have b:((l.length:Int)+1==0)=false:=by rfl
  simpa[-beq_iff_eq,-beq_eq_false_iff_ne,QP,QI,b] using hP
 | nil=>
  by_cases c1:0<=i
  .by_cases c2:i<=200
   .simp_all[QP,BT]
   .simpa[QP,QI,c1,c2,BT] using hP
  .simpa[QP,QI,c1,BT] using hP
theorem wf2 (ha:Ao a (AZ ts)) (hl:AY ts<2 ^ 38) (hn:YE n) (ih:∀t∈ts,AM (env R) 73 [.agg ((Ag t).map .pv)] λr=>r=BB (valid t))
  (hP:Post (BB (M5 n&&!MC.contains n&&decide (ts.length<=6)&&Ft ts&&BT ts))):NK R 0 0 0 (.ptr 0 0) (AB ts.length) (AB 2) (BB false) ⟨[[AB 2,SS n,AB i,a]],[]⟩ (QP Post):=by
 refine TI ⟨by simp,λ_=>⟨⟨rfl,rfl⟩,⟨by simp,λ_=>⟨⟨rfl,rfl⟩,⟨λ_=>?_,by simp⟩⟩⟩⟩⟩;simp only[Cl,Bs,Lf,Lg,AO,Cw,FJ,wO,setCells,Ci,FC,Dn,Dh,Ax,alive,Cg,GD,I1,oU,A8,DF,BO,Gx,Dv,Cz,tM,oV,okB,tN,tP,tQ,tR,tS,eC,tT,tU,tV,tW,tX,tY,tZ,td,th,tj,tq,okF,uA,uB,uC,uD,uE,YE,uF,S0,S1,S2,S3,uG,uH,uI,uJ,rG,uK,uL,uM,uN,uO,Fz,uP,rH,uQ,uR,uS,uT,uU,uV,uW,uX,uY,uZ,Co,xI,xL,xM,xF,xG,g0,g1,lf];simp only[Jj,Ig,CT,CP,F2];refine⟨Ab,AD (aE hn) ?_⟩;rintro v rfl;cases c1:M5 n with
 | false=>
  simp_all[QP]
 | true=>
  simp;refine AD YO ?_;rintro v rfl;cases c2:MC.contains n with
  | true=>
   simp_all[QP]
  | false=>
   rw[c1,c2] at hP
   by_cases c3:ts.length<=6
   .have c3':¬ (6<(ts.length:Int)):=by omega
    rw[Ap c3] at hP;simp[c3'];exact AO1 (uu ha hl ih ts.length 0 (by omega) (by grind))
   .have c3':(6<(ts.length:Int)):=by omega
    simp_all[QP]
theorem wf3 (ha:Ao a (AZ ts)) (hl:AY ts<2 ^ 38) (ih:∀t∈ts,AM (env R) 73 [.agg ((Ag t).map .pv)] λr=>r=BB (valid t)) (hP:Post (BB (decide (ts.length<=6)&&BT ts))) :
  NK R 0 0 0 (.ptr 0 0) (AB ts.length) (AB 3) (BB false) ⟨[[AB 3,SS n,AB i,a]],[]⟩ (QP Post):=by
 refine TI ⟨by simp,λ_=>⟨⟨rfl,rfl⟩,⟨by simp,λ_=>⟨⟨rfl,rfl⟩,⟨by simp,λ_=>⟨⟨rfl,rfl⟩,⟨λ_=>?_,by simp⟩⟩⟩⟩⟩⟩⟩
 by_cases c:ts.length<=6
 .have c':¬ (6<(ts.length:Int)):=by omega
  rw[Ap c] at hP;simp[c']
  grind[R6]
 .have c':(6<(ts.length:Int)):=by omega
  simp_all[QP]
theorem wf4 (ha:Ao a (AZ ts)) (hl:AY ts<2 ^ 38) (ih:∀t∈ts,AM (env R) 73 [.agg ((Ag t).map .pv)] λr=>r=BB (valid t)) (hP:Post (BB (decide (2<=ts.length)&&BT ts))) :
  NK R 0 0 0 (.ptr 0 0) (AB ts.length) (AB 4) (BB false) ⟨[[AB 4,SS n,AB i,a]],[]⟩ (QP Post):=by
 refine TI ⟨by simp,λ_=>⟨⟨rfl,rfl⟩,⟨by simp,λ_=>⟨⟨rfl,rfl⟩,⟨by simp,λ_=>⟨⟨rfl,rfl⟩,⟨by simp,λ_=>⟨⟨rfl,rfl⟩,⟨λ_=>?_,by simp⟩⟩⟩⟩⟩⟩⟩⟩⟩
 by_cases c:2<=ts.length
 .have c':¬ ((ts.length:Int)<2):=by omega
  rw[Ap c] at hP;simp[c']
  grind[R6]
 .have c':((ts.length:Int)<2):=by omega
  simp_all[QP]
theorem wf6 (ha:Ao a (AZ ts)) (hl:AY ts<2 ^ 38) (ih:∀t∈ts,AM (env R) 73 [.agg ((Ag t).map .pv)] λr=>r=BB (valid t)) (hP:Post (BB (ts.length==2&&TG ts&&BT ts))) :
  NK R 0 0 0 (.ptr 0 0) (AB ts.length) (AB 6) (BB false) ⟨[[AB 6,SS n,AB i,a]],[]⟩ (QP Post):=by
 refine TI ⟨by simp,λ_=>⟨⟨rfl,rfl⟩,⟨by simp,λ_=>⟨⟨rfl,rfl⟩,⟨by simp,λ_=>⟨⟨rfl,rfl⟩,⟨by simp,λ_=>⟨⟨rfl,rfl⟩,⟨by simp,λ_=>⟨⟨rfl,rfl⟩,⟨λ_=>?_,by simp⟩⟩⟩⟩⟩⟩⟩⟩⟩⟩⟩
 by_cases c:ts.length=2
 .obtain⟨t,l,rfl⟩:∃t l,ts=t::l:=by
   cases ts with
   | nil=>grind
   | cons t l=>simp
  have hl':=hl;simp only[AY] at hl';have e3:AM (env R) 48 [.agg ((Ag t).map .pv)] λr=>r=BB (Cv 0 t):=IP (by omega) (A7.BZ t)
  have hP':Post (BB (Cv 0 t&&BT (t::l))):=by
   rw[show(t::l).length==2 by grind] at hP;simpa[TG] using hP
  have b:(((t::l).length:Int) != 2)=false:=by
   rw[c]; rfl
  simp only[Cl,Bs,Lf,Lg,AO,Cw,FJ,wO,setCells,Ci,FC,Dn,Dh,Ax,alive,Cg,GD,I1,oU,A8,DF,BO,Gx,Dv,Cz,tM,oV,okB,tN,tP,tQ,tR,tS,eC,tT,tU,tV,tW,tX,tY,tZ,td,th,tj,tq,okF,uA,uB,uC,uD,uE,YE,uF,S0,S1,S2,S3,uG,uH,uI,uJ,rG,uK,uL,uM,uN,uO,Fz,uP,rH,uQ,uR,uS,uT,uU,uV,uW,uX,uY,uZ,Co,b,xI,xL,xM,xF,xG,g0,g1,lf];refine⟨⟨Ab,Ab⟩,?_⟩;simp;refine BK ha (row:=Ag t) (by omega) (by simp[AZ]) (Af t) (by omega) ?_;obtain⟨k',n',x,es⟩:=t;simp only[Ag,CE,Cs] at e3;simp[Ag];refine AD e3 ?_;rintro v rfl;cases hc:Cv 0 (.mk k' n' x es) with
  | false=>
   rw[hc] at hP';simpa[QP,QI] using hP'
  | true=>
   rw[hc] at hP';simp;have:=R6 (n:=n) (k:=6) (i:=i) ha hl ih (by simpa using hP')
   grind
 .have c':¬ ((ts.length:Int)=2):=by omega
  have b:(ts.length==2)=false:=by grind
  rw[b] at hP;have b':((ts.length:Int) != 2)=true:=by grind
  simpa[-bne_iff_ne,QP,QI,b'] using hP
theorem wf7 (h5:¬ k=5) (h2:¬ k=2) (h3:¬ k=3) (h4:¬ k=4) (h6:¬ k=6) (hP:Post (BB false)):NK R 0 0 0 (.ptr 0 0) (AB ts.length) (AB k) (BB false) ⟨[[AB k,SS n,AB i,a]],[]⟩ (QP Post):=by
 refine TI ⟨by simp,λ_=>⟨⟨rfl,rfl⟩,⟨by grind,λ_=>⟨⟨rfl,rfl⟩,⟨by grind,λ_=>⟨⟨rfl,rfl⟩,⟨by grind,λ_=>⟨⟨rfl,rfl⟩,⟨by grind,λ_=>⟨⟨rfl,rfl⟩,⟨by grind,λ_=>?_⟩⟩⟩⟩⟩⟩⟩⟩⟩⟩⟩;exact⟨_,Fz,hP⟩
theorem P9 (ha:Ao a (AZ ts)) (hs:AY ts<2 ^ 38) (hn:YE n) (ih:∀t∈ts,AM (env R) 73 [.agg ((Ag t).map .pv)] λr=>r=BB (valid t)) (hP:Post (BB (shape k n i ts&&BT ts))) :
  uv R 0 0 0 (.ptr 0 0) (AB ts.length) ⟨[[AB k,SS n,AB i,a]],[]⟩ (QP Post):=by
 refine AO2 ?_
 by_cases h0:k=0
 .simp_all[wf0,shape]
 by_cases h1:k=1
 .simp_all[wf0,shape]
 have b0:(k==0)=false:=by grind
 have b1:(k==1)=false:=by grind
 simp[h0];have e:(BB (k==1):AV)=BB false:=by rw[b1]
 grind[wf2,shape,wf3,wf4,wf5,wf6,wf7]
end
end
abbrev ph (v:Nat):Ty:=.mk 7 [] v []
abbrev var (i:Int):Ty:=.mk 5 [] i []
def hole:Int:=1073741824
structure Br where
 bounds:List Ty
 body:Ty
def eD {α:Type} (d:α) (g:Ty->Ty->α):List Ty->α
 | [b,body]=>g b body
 | _=>d
mutual
def CH (f:Int->Ty):Ty->Ty
 | .mk k n i ts=>bif k==5 then f i else bif k==2||k==3 then .mk k n i (Cr f ts) else .mk k n i ts
def Cr (f:Int->Ty):List Ty->List Ty
 | []=>[]
 | t::l=>CH f t::Cr f l
end
def IB (n:Nat):Ty->Ty:=CH λi=>bif decide (0<=i)&&!(i==hole) then var (i+n) else var i
def rI:Ty->Ty:=CH λi=>var (-1-i)
def JM (n:Nat):Ty->Ty:=CH λi=>bif i==-1 then var n else bif decide (i<0) then var (i+1) else var i
def Kg (n m:Int):Ty->Ty:=CH λi=>bif i==n then var m else var i
mutual
def oA (p:Int->Bool):Ty->Bool
 | .mk k _ i ts=>bif k==5 then p i else k==2&&Vv p ts
def Vv (p:Int->Bool):List Ty->Bool
 | []=>false
 | t::l=>oA p t||Vv p l
end
mutual
def oI (p:Int->Bool):Ty->Bool
 | .mk k n i ts=>bif k==2 then oA p (.mk k n i ts) else k==3&&QA p ts
def QA (p:Int->Bool):List Ty->Bool
 | []=>false
 | t::l=>oI p t||QA p l
end
mutual
def Aj:Ty->List Int
 | .mk k _ i ts=>bif k==5 then [i] else bif k==3 then Bp ts else []
def Bp:List Ty->List Int
 | []=>[]
 | t::l=>Aj t++Bp l
end
mutual
def QB (b:Ty):Ty->Nat->Ty
 | .mk c n i ts,k=>bif c==5 then(bif k==0 then b else .mk c n i ts) else bif c==3 then .mk c n i (Kh b ts k) else .mk c n i ts
def Kh (b:Ty):List Ty->Nat->List Ty
 | [],_=>[]
 | t::l,k=>bif decide (k<(Aj t).length) then QB b t k::l else t::Kh b l (k-(Aj t).length)
end
def GL (b:Ty):Option Nat:=(Aj b).findIdx? (·==hole)
def Dp (b:Br) (k:Nat) (c:Br):Br:=⟨b.bounds++c.bounds,QB (IB b.bounds.length c.body) b.body k⟩
section
variable (BD:Nat->Bool)
def IQ {α β:Type} (g:α->Option (List β)):List α->List β->Option (List β)
 | [],out=>some out
 | a::l,out=>match g a with
  | none=>none
  | some r=>bif BD (out++r).length then none else IQ g l (out++r)
def Ed (l:List Br):Nat->Br->Option (List Br)
 | 0,b=>some [b]
 | f+1,b=>match GL b.body with
  | none=>some [b]
  | some k=>IQ BD (λc=>Ed l f (Dp b k c)) l []
def FO (TJ:Option (List Br)) (bound:Ty) (b:Br):Option (List Br):=
 bif oI (·==(b.bounds.length:Int)) (JM b.bounds.length b.body) then some [⟨b.bounds++[bound],JM b.bounds.length b.body⟩]
 else match GL (Kg b.bounds.length hole (JM b.bounds.length b.body)) with
  | none=>some [⟨b.bounds,Kg b.bounds.length hole (JM b.bounds.length b.body)⟩]
  | some _=>match TJ with
   | none=>none
   | some l=>Ed BD l (Aj b.body).length ⟨b.bounds,Kg b.bounds.length hole (JM b.bounds.length b.body)⟩
def HI (out:List Br) (l:List Br):List Br:=out.flatMap λb=>l.map λc=>⟨b.bounds++c.bounds,match b.body with
 | .mk _ _ _ args=>.mk 3 [] 0 (args++[IB b.bounds.length c.body])⟩
def JN:List (List Br)->List Br->Option (List Br)
 | [],out=>some out
 | l::ls,out=>bif BD (HI out l).length then none else JN ls (HI out l)
def FP {α:Type}:List (Option α)->Option (List α)
 | []=>some []
 | none::_=>none
 | some a::l=>match FP l with
  | none=>none
  | some r=>some (a::r)
def DS:Nat->Ty->Option (List Br)
 | 0,_=>none
 | f+1,.mk k n i ts=>
  bif k==0 then some [⟨[],.mk k n i ts⟩]
  else bif k==2||k==5 then some [⟨[],rI (.mk k n i ts)⟩]
  else bif k==3 then match FP (ts.map (DS f)) with
   | none=>none
   | some ls=>bif ls.any List.isEmpty then some [] else JN BD ls [⟨[],.mk 3 [] 0 []⟩]
  else bif k==4 then match FP (ts.map (DS f)) with
   | none=>none
   | some ls=>bif BD ls.flatten.length then none else some ls.flatten
  else bif k==6 then eD (some []) (λb body=>match DS f body with
    | none=>none
    | some l=>IQ BD (FO BD (DS f b) b) l []) ts
  else some []
mutual
def sub (v:Nat) (u:Nat):Ty->Ty
 | .mk k n i ts=>bif k==5 then(bif i==(u:Int) then ph v else bif decide ((u:Int)<i) then .mk k n (i-1) ts else .mk k n i ts) else .mk k n i (KE v u k 0 ts)
def KE (v:Nat) (u:Nat) (k:Int) (j:Nat):List Ty->List Ty
 | []=>[]
 | t::l=>sub v (u+Ec k j) t::KE v u k (j+1) l
end
mutual
def DY (v:Nat) (inv:Bool):Ty->Bool
 | .mk k _ i ts=>bif k==7 then i==(v:Int)&&!inv else Fu v (inv&&!(k==2)) ts
def Fu (v:Nat) (inv:Bool):List Ty->Bool
 | []=>false
 | t::l=>DY v inv t||Fu v inv l
end
mutual
def BU (m:Int->Bool):Ty->Nat
 | .mk k _ i ts=>bif k==7 then(bif m i then 1 else 0) else bif k==3 then CX m ts else 0
def CX (m:Int->Bool):List Ty->Nat
 | []=>0
 | t::l=>BU m t+CX m l
end
mutual
def KF (m:Int->Bool) (b:Ty):Ty->Nat->Ty
 | .mk c n i ts,k=>bif c==7 then(bif m i&&k==0 then b else .mk c n i ts) else bif c==3 then .mk c n i (Jg m b ts k) else .mk c n i ts
def Jg (m:Int->Bool) (b:Ty):List Ty->Nat->List Ty
 | [],_=>[]
 | t::l,k=>bif decide (k<BU m t) then KF m b t k::l else t::Jg m b l (k-BU m t)
end
abbrev Fv:=Option (List Ty)×List Ty
def Ca {α:Type} (g:α->List Ty->Fv):List α->List Ty->List Ty->Fv
 | [],out,B=>(some out,B)
 | a::l,out,B=>match g a B with
  | (none,B)=>(none,B)
  | (some r,B)=>bif BD (out++r).length then(none,B) else Ca g l (out++r) B
def CI (ex:List Ty->Fv) (v:Nat):Nat->Ty->List Ty->Fv
 | 0,t,B=>(some [t],B)
 | f+1,t,B=>bif DY v false t then match ex B with
   | (none,B)=>(none,B)
   | (some cs,B)=>Ca BD (λc B=>CI ex v f (KF (·==(v:Int)) c t 0) B) cs [] B
  else(some [t],B)
def B5 (ex:List Ty->Fv) (v:Nat) (t:Ty) (B:List Ty):Fv:=
 bif DY v true t then(some [t],B) else CI BD ex v (BU (·==(v:Int)) t) t B
def Dq:List (List Ty)->List (List Ty)->Option (List (List Ty))
 | [],out=>some out
 | l::ls,out=>bif BD (out.flatMap λp=>l.map λx=>p++[x]).length then none else Dq ls (out.flatMap λp=>l.map λx=>p++[x])
def G4 (ex:Ty->List Ty->Fv):List Ty->List Ty->Bool->List Ty->(List Ty×Bool)×List Ty
 | [],out,ok,B=>((out,ok),B)
 | t::l,out,ok,B=>match ex t B with
  | (none,B)=>G4 ex l out false B
  | (some r,B)=>G4 ex l (out++r) ok B
def Er (ex:Ty->List Ty->Fv):List Ty->List (List Ty)->List Ty->Option (List (List Ty))×List Ty
 | [],out,B=>(some out,B)
 | t::l,out,B=>match ex t B with
  | (none,B)=>(none,B)
  | (some r,B)=>Er ex l (out++[r]) B
def BF:Nat->Ty->List Ty->Fv
 | 0,_,B=>(none,B)
 | f+1,.mk k n i ts,B=>
  bif k==0||k==2||k==7 then(bif BD 1 then none else some [.mk k n i ts],B)
  else bif k==4 then match G4 (BF f) ts [] true B with
   | ((out,ok),B)=>(bif ok&&!BD out.length then some out else none,B)
  else bif k==3 then match Er (BF f) ts [] B with
   | (none,B)=>(none,B)
   | (some ls,B)=>bif ls.any List.isEmpty then(some [],B) else match Dq BD ls [[]] with
    | none=>(none,B)
    | some all=>(bif BD all.length then none else some (all.map (.mk 3 [] 0)),B)
  else bif k==6 then eD (some [],B) (λb body=>match BF f (sub B.length 0 body) (B++[b]) with
    | (none,B1)=>(none,B1)
    | (some l,B1)=>match Ca BD (B5 BD (BF f b) B.length) l [] B1 with
     | (none,B2)=>(none,B2)
     | (some out,B2)=>(bif BD out.length then none else some out,B2)) ts
  else(bif BD 0 then none else some [],B)
end
mutual
def vis:Ty->List Int
 | .mk k _ i ts=>bif k==5 then [i] else bif k==2||k==3 then Ef ts else []
def Ef:List Ty->List Int
 | []=>[]
 | t::l=>vis t++Ef l
end
def Vw (t:Ty):Bool:=valid t&&Cv 0 t
mutual
def pl:Ty->Bool
 | .mk k n i ts=>bif k==5 then n==[]&&ts.isEmpty else bif k==2 then YQ ts else Vw (.mk k n i ts)
def YQ:List Ty->Bool
 | []=>true
 | t::l=>pl t&&YQ l
end
mutual
def bd:Ty->Bool
 | .mk k n i ts=>bif k==5 then n==[]&&ts.isEmpty else bif k==2 then YQ ts else bif k==3 then M6 ts else Vw (.mk k n i ts)
def M6:List Ty->Bool
 | []=>true
 | t::l=>bd t&&M6 l
end
theorem j4 {k i:Int} {n:List UInt8} {ts:List Ty} (hk:k≠6) (h:Vw (.mk k n i ts)=true):∀t∈ts,Vw t=true:=by
 unfold Vw at h;simp only[AG,valid,Cv] at h;obtain⟨⟨_,h1⟩,h2⟩:=h;have h3:D8 0 k 0 ts=true:=by grind
 have k6:(k==6)=false:=by grind
 have hb:∀j,Ec k j=0:=λj=>by simp[Ec,k6]
 have:∀(l:List Ty) (j:Nat),BT l=true->D8 0 k j l=true->∀t∈l,Vw t=true:=by
  intro l
  induction l with
  | nil=>simp
  | cons a l ih=>
   grind[BT,D8,Vw]
 grind
theorem TK {k i:Int} {n:List UInt8} {ts:List Ty} (h:Vw (.mk k n i ts)=true):k≠5/\k≠7:=by grind[Vw,valid,Cv,root,shape]
mutual
theorem Mk:∀(t:Ty) (f:Int->Ty),Vw t=true->CH f t=t
 | .mk k n i ts,f,h=>by
  have hk:=TK h;have b5:(k==5)=false:=by grind
  rw[CH,b5];simp only[AH];cases b:(k==2||k==3) with
  | false=>rfl
  | true=>
   have j5:k≠6:=by grind
   simp only[AN];rw[aH ts f (j4 j5 h)]
theorem aH:∀(l:List Ty) (f:Int->Ty),(∀t∈l,Vw t=true)->Cr f l=l
 | [],_,_=>rfl
 | t::l,f,h=>by
  rw[Cr,Mk t f (h t (by simp)),aH l f λt ht=>h t (Eg _ ht)]
end
mutual
theorem fu:∀(t:Ty),Vw t=true->vis t=[]
 | .mk k n i ts,h=>by
  have hk:=TK h;have b5:(k==5)=false:=by grind
  rw[vis,b5];simp only[AH];cases b:(k==2||k==3) with
  | false=>rfl
  | true=>
   have j5:k≠6:=by grind
   simp only[AN];exact j6 ts (j4 j5 h)
theorem j6:∀(l:List Ty),(∀t∈l,Vw t=true)->Ef l=[]
 | [],_=>rfl
 | t::l,h=>by
  rw[Ef,fu t (h t (by simp)),j6 l λt ht=>h t (Eg _ ht)];rfl
end
mutual
theorem Hi (f:Int->Ty) (g:Int->Int):∀t:Ty,CH f (CH (λi=>var (g i)) t)=CH (λi=>f (g i)) t
 | .mk k n i ts=>by
  rw[CH,CH];cases b5:(k==5) with
  | true=>rfl
  | false=>
   cases b:(k==2||k==3) with
   | false=>grind[CH]
   | true=>simp only[AH,AN,CH,b5,b,TL f g ts]
theorem TL (f:Int->Ty) (g:Int->Int):∀l:List Ty,Cr f (Cr (λi=>var (g i)) l)=Cr (λi=>f (g i)) l
 | []=>rfl
 | t::l=>by simp only[Cr,Hi f g t,TL f g l]
end
mutual
theorem EX {f g:Int->Ty}:∀(t:Ty),(∀i∈vis t,f i=g i)->CH f t=CH g t
 | .mk k n i ts,h=>by
  rw[CH,CH];rw[vis] at h;cases b5:(k==5) with
  | true=>
   grind
  | false=>
   rw[b5] at h;cases b:(k==2||k==3) with
   | false=>rfl
   | true=>
    rw[b] at h;simp only[AH,AN] at h ⊢;rw[Q6 ts h]
theorem Q6 {f g:Int->Ty}:∀(l:List Ty),(∀i∈Ef l,f i=g i)->Cr f l=Cr g l
 | [],_=>rfl
 | t::l,h=>by
  simp only[Ef,B9] at h;rw[Cr,Cr,EX t λi hi=>h i (.inl hi),Q6 l λi hi=>h i (.inr hi)]
end
mutual
theorem Ml (g:Int->Int):∀t:Ty,vis (CH (λi=>var (g i)) t)=(vis t).map g
 | .mk k n i ts=>by
  rw[CH,vis];cases b5:(k==5) with
  | true=>rfl
  | false=>
   cases b:(k==2||k==3) with
   | false=>grind[vis]
   | true=>simp only[AH,AN,vis,b5,b,aI g ts]
theorem aI (g:Int->Int):∀l:List Ty,Ef (Cr (λi=>var (g i)) l)=(Ef l).map g
 | []=>rfl
 | t::l=>by simp only[Cr,Ef,Ml g t,aI g l,Rh]
end
mutual
theorem EO (g:Int->Int):∀t:Ty,Aj (CH (λi=>var (g i)) t)=(Aj t).map g
 | .mk k n i ts=>by
  rw[CH,Aj];cases b5:(k==5) with
  | true=>rfl
  | false=>
   cases b3:(k==3) with
   | true=>simp only[AH,AN,Aj,b5,b3,HB,Vx g ts]
   | false=>
    grind[Aj]
theorem Vx (g:Int->Int):∀l:List Ty,Bp (Cr (λi=>var (g i)) l)=(Bp l).map g
 | []=>rfl
 | t::l=>by simp only[Cr,Bp,EO g t,Vx g l,Rh]
end
mutual
theorem Ot:∀(t:Ty),∀i∈Aj t,i∈vis t
 | .mk k n i ts=>by
  rw[Aj,vis];cases b5:(k==5) with
  | true=>simp
  | false=>
   cases b3:(k==3) with
   | true=>simpa using Vy ts
   | false=>simp
theorem Vy:∀(l:List Ty),∀i∈Bp l,i∈Ef l
 | []=>by simp[Bp]
 | t::l=>by
  intro i hi;simp only[Bp,Ef,B9] at hi ⊢;rcases hi with hi|hi
  .exact .inl (Ot t i hi)
  .exact .inr (Vy l i hi)
end
mutual
theorem uw (p:Int->Bool) (g:Int->Int):∀t:Ty,pl t=true->oA p (CH (λi=>var (g i)) t)=oA (λi=>p (g i)) t
 | .mk k n i ts,h=>by
  rw[CH,oA];cases b5:(k==5) with
  | true=>rfl
  | false=>
   cases b2:(k==2) with
   | true=>
    rw[pl,b5,b2] at h;simp only[AH,AN] at h;simp only[AH,AN,oA,b5,b2,Hv,Fb,j7 p g ts h]
   | false=>
    grind[oA]
theorem j7 (p:Int->Bool) (g:Int->Int):∀l:List Ty,YQ l=true->Vv p (Cr (λi=>var (g i)) l)=Vv (λi=>p (g i)) l
 | [],_=>rfl
 | t::l,h=>by
  simp only[YQ,AG] at h;simp only[Cr,Vv,uw p g t h.1,j7 p g l h.2]
end
mutual
theorem aJ {p q:Int->Bool}:∀t:Ty,(∀i∈vis t,p i=q i)->oA p t=oA q t
 | .mk k n i ts,h=>by
  rw[vis] at h;rw[oA,oA];cases b5:(k==5) with
  | true=>grind
  | false=>
   rw[b5] at h;cases b2:(k==2) with
   | false=>simp
   | true=>
    rw[b2] at h;simp only[AH,AN,Hv] at h ⊢;rw[Vz ts h]
theorem Vz {p q:Int->Bool}:∀l:List Ty,(∀i∈Ef l,p i=q i)->Vv p l=Vv q l
 | [],_=>rfl
 | t::l,h=>by
  simp only[Ef,B9] at h;rw[Vv,Vv,aJ t λi hi=>h i (.inl hi),Vz l λi hi=>h i (.inr hi)]
end
mutual
theorem TM {p q:Int->Bool}:∀t:Ty,(∀i∈vis t,p i=q i)->oI p t=oI q t
 | .mk k n i ts,h=>by
  have h0:=aJ (.mk k n i ts) h;rw[vis] at h;rw[oI,oI];cases b2:(k==2) with
  | true=>grind
  | false=>
   cases b3:(k==3) with
   | false=>simp
   | true=>
    have b5:(k==5)=false:=by grind
    rw[b5,b3] at h;simp only[AH,AN,HB] at h;simp only[AH,Fb];exact V1 ts h
theorem V1 {p q:Int->Bool}:∀l:List Ty,(∀i∈Ef l,p i=q i)->QA p l=QA q l
 | [],_=>rfl
 | t::l,h=>by
  simp only[Ef,B9] at h;rw[QA,QA,TM t λi hi=>h i (.inl hi),V1 l λi hi=>h i (.inr hi)]
end
mutual
theorem AJ8 (g:Int->Int):∀t:Ty,pl t=true->pl (CH (λi=>var (g i)) t)=true
 | .mk k n i ts,h=>by
  rw[CH];cases b5:(k==5) with
  | true=>rfl
  | false=>
   cases b2:(k==2) with
   | true=>
    rw[pl,b5,b2] at h;simp only[AH,AN] at h;simp only[AH,AN,Hv,pl,b5,b2,YR g ts h]
   | false=>
    have hc:Vw (.mk k n i ts)=true:=by grind[pl]
    have e:=Mk (.mk k n i ts) (λi=>var (g i)) hc
    grind[CH]
theorem YR (g:Int->Int):∀l:List Ty,YQ l=true->YQ (Cr (λi=>var (g i)) l)=true
 | [],_=>rfl
 | t::l,h=>by
  simp only[YQ,AG] at h;simp only[Cr,YQ,AJ8 g t h.1,YR g l h.2,K3]
end
mutual
theorem QC (g:Int->Int):∀t:Ty,bd t=true->bd (CH (λi=>var (g i)) t)=true
 | .mk k n i ts,h=>by
  rw[CH];cases b5:(k==5) with
  | true=>rfl
  | false=>
   cases b2:(k==2) with
   | true=>
    simp_all[bd,YR]
   | false=>
    cases b3:(k==3) with
    | true=>
     rw[bd,b5,b2,b3] at h;simp only[AH,AN] at h;simp only[AH,AN,HB,bd,b5,b2,b3,j8 g ts h]
    | false=>
     grind
theorem j8 (g:Int->Int):∀l:List Ty,M6 l=true->M6 (Cr (λi=>var (g i)) l)=true
 | [],_=>rfl
 | t::l,h=>by
  simp only[M6,AG] at h;simp only[Cr,M6,QC g t h.1,j8 g l h.2,K3]
end
mutual
theorem ux (p:Int->Bool) (g:Int->Int):∀t:Ty,bd t=true->oI p (CH (λi=>var (g i)) t)=oI (λi=>p (g i)) t
 | .mk k n i ts,h=>by
  cases b2:(k==2) with
  | true=>
   have h2:k=2:=by grind
   subst h2;have hp:pl (.mk 2 n i ts)=true:=by assumption
   have:=uw p g (.mk 2 n i ts) hp
   assumption
  | false=>
   rw[CH,oI];cases b5:(k==5) with
   | true=>
    grind[oI]
   | false=>
    cases b3:(k==3) with
    | true=>
     rw[bd,b5,b2,b3] at h;simp only[AH,AN] at h;simp only[AH,AN,HB,oI,b2,b3,Fb,j9 p g ts h]
    | false=>grind[oI]
theorem j9 (p:Int->Bool) (g:Int->Int):∀l:List Ty,M6 l=true->QA p (Cr (λi=>var (g i)) l)=QA (λi=>p (g i)) l
 | [],_=>rfl
 | t::l,h=>by
  simp only[M6,AG] at h;simp only[Cr,QA,ux p g t h.1,j9 p g l h.2]
end
theorem JO {k i:Int} {n:List UInt8} {ts:List Ty} (h:valid (.mk k n i ts)=true):k≠7:=by grind[valid,root,shape]
mutual
theorem LO (v:Nat):∀(t:Ty) (inv:Bool),valid t=true->DY v inv t=false
 | .mk k n i ts,inv,h=>by
  have b7:(k==7)=false:=by grind[JO]
  simp only[valid,AG] at h;rw[DY,b7];simp only[AH];exact Q7 v ts _ h.2
theorem Q7 (v:Nat):∀(l:List Ty) (inv:Bool),BT l=true->Fu v inv l=false
 | [],_,_=>rfl
 | t::l,inv,h=>by
  simp only[BT,AG] at h;rw[Fu,LO v t inv h.1,Q7 v l inv h.2];rfl
end
theorem Mm {t:Ty} (h:Vw t=true):valid t=true:=by grind[Vw]
section
variable (φ:Int->Nat)
abbrev tr (b:Ty):Ty:=CH (λi=>ph (φ i)) b
abbrev TN (l:List Ty):List Ty:=Cr (λi=>ph (φ i)) l
mutual
theorem ACz (v:Nat):∀b:Ty,pl b=true->DY v false (tr φ b)=oA (λi=>φ i==v) b
 | .mk k n i ts,h=>by
  rw[tr,CH,oA];cases b5:(k==5) with
  | true=>
   grind[DY]
  | false=>
   cases b2:(k==2) with
   | true=>
    have h2:k=2:=by grind
    subst h2;rw[pl] at h;have:=Ou v ts (by grind)
    assumption
   | false=>
    have hc:Vw (.mk k n i ts)=true:=by grind[pl]
    have e:=Mk (.mk k n i ts) (λi=>ph (φ i)) hc
    grind[CH,LO,Mm]
theorem Ou (v:Nat):∀l:List Ty,YQ l=true->Fu v false (TN φ l)=Vv (λi=>φ i==v) l
 | [],_=>rfl
 | t::l,h=>by
  simp only[YQ,AG] at h;rw[TN,Cr,Fu,Vv];rw[ACz v t h.1,Ou v l h.2]
end
mutual
theorem kA (v:Nat):∀b:Ty,bd b=true->DY v true (tr φ b)=oI (λi=>φ i==v) b
 | .mk k n i ts,h=>by
  rw[tr,CH,oI];cases b5:(k==5) with
  | true=>
   grind[DY]
  | false=>
   cases b2:(k==2) with
   | true=>
    simp_all[bd,Ou,DY,oA]
   | false=>
    cases b3:(k==3) with
    | true=>
     have h3:k=3:=by grind
     subst h3;rw[bd] at h;have:=aK v ts (by grind)
     assumption
    | false=>
     grind[bd,LO,Mm]
theorem aK (v:Nat):∀l:List Ty,M6 l=true->Fu v true (TN φ l)=QA (λi=>φ i==v) l
 | [],_=>rfl
 | t::l,h=>by
  simp only[M6,AG] at h;rw[TN,Cr,Fu,QA,kA v t h.1,aK v l h.2]
end
mutual
theorem uy (v:Nat):∀b:Ty,bd b=true->DY v false (tr φ b)=(oI (λi=>φ i==v) b||(Aj b).any λi=>φ i==v)
 | .mk k n i ts,h=>by
  rw[tr,CH,oI,Aj];cases b5:(k==5) with
  | true=>
   grind[DY]
  | false=>
   cases b2:(k==2) with
   | true=>
    simp_all[bd,Ou,DY,oA]
   | false=>
    cases b3:(k==3) with
    | true=>
     have h3:k=3:=by grind
     subst h3;rw[bd] at h;have:=kB v ts (by grind)
     assumption
    | false=>
     grind[bd,LO,Mm]
theorem kB (v:Nat):∀l:List Ty,M6 l=true->Fu v false (TN φ l)=(QA (λi=>φ i==v) l||(Bp l).any λi=>φ i==v)
 | [],_=>rfl
 | t::l,h=>by
  simp only[M6,AG] at h;rw[TN,Cr,Fu,QA,Bp,uy v t h.1,kB v l h.2,List.any_append]
  grind
end
mutual
theorem fy (m:Int->Bool):∀b:Ty,bd b=true->BU m (tr φ b)=(Aj b).countP λi=>m (φ i)
 | .mk k n i ts,h=>by
  rw[tr,CH,Aj];cases b5:(k==5) with
  | true=>
   rfl
  | false=>
   cases b3:(k==3) with
   | true=>
    have h3:k=3:=by grind
    subst h3;rw[bd] at h;have:=kC m ts (by grind)
    assumption
   | false=>
    grind[bd,TK,BU]
theorem kC (m:Int->Bool):∀l:List Ty,M6 l=true->CX m (TN φ l)=(Bp l).countP λi=>m (φ i)
 | [],_=>rfl
 | t::l,h=>by
  simp only[M6,AG] at h;rw[TN,Cr,CX,Bp,fy m t h.1,kC m l h.2,Rj]
end
mutual
theorem AEy (m:Int->Bool) (c:Ty):∀(b:Ty) (k j:Nat),bd b=true->(∃x,(Aj b)[k]?=some x/\m (φ x)=true)->((Aj b).take k).countP (λi=>m (φ i))=j->tr φ (QB c b k)=KF m (tr φ c) (tr φ b) j
 | .mk k n i ts,q,j,h,hx,hj=>by
  cases b5:(k==5) with
  | true=>
   grind[Aj,QB,CH,KF]
  | false=>
   cases b3:(k==3) with
   | true=>
    have h3:k=3:=by grind
    subst h3;rw[bd] at h;rw[Aj] at hx hj;have:=uz m c ts q j (by grind) (by grind) (by grind)
    grind[QB,CH,KF]
   | false=>
    grind[Aj]
theorem uz (m:Int->Bool) (c:Ty):∀(l:List Ty) (k j:Nat),M6 l=true->(∃x,(Bp l)[k]?=some x/\m (φ x)=true)->((Bp l).take k).countP (λi=>m (φ i))=j->TN φ (Kh c l k)=Jg m (tr φ c) (TN φ l) j
 | [],q,j,_,hx,_=>by rfl
 | t::l,q,j,h,hx,hj=>by
  simp only[M6,AG] at h;obtain⟨x,hx,hm⟩:=hx;rw[Bp] at hx hj;have hc:=fy φ m t h.1;rw[show TN φ (t::l)=tr φ t::TN φ l from rfl]
  by_cases hq:q<(Aj t).length
  .rw[CZ hq] at hx
   rw[XY (by omega)] at hj;have hlt:j<BU m (tr φ t):=by grind[List.take_append_drop]
   rw[Kh,Jg,Ap hq,Ap hlt];simp only[AN];rw[<-AEy m c t q j h.1 ⟨x,hx,hm⟩ hj];rfl
  .rw[E3 (by omega)] at hx
   rw[List.take_append,CL (by omega),Rj,<-hc] at hj;have hlt:¬ j<BU m (tr φ t):=by omega
   rw[Kh,Jg,Aw hq,Aw hlt];simp only[AH];rw[<-uz m c l (q-(Aj t).length) (j-BU m (tr φ t)) h.2 ⟨x,hx,hm⟩ (by omega)];rfl
end
end
section
variable (c:Ty)
mutual
theorem Ov:∀(b:Ty) (k:Nat),k<(Aj b).length->Aj (QB c b k)=(Aj b).take k++(Aj c++(Aj b).drop (k+1))
 | .mk q n i ts,k,hk=>by
  rw[Aj] at hk ⊢;rw[QB];cases b5:(q==5) with
  | true=>
   grind
  | false=>
   rw[b5] at hk;cases b3:(q==3) with
   | true=>
    rw[b3] at hk;simp only[AH,AN] at hk ⊢;rw[Aj,b5,b3];exact aL ts k hk
   | false=>grind
theorem aL:∀(l:List Ty) (k:Nat),k<(Bp l).length->Bp (Kh c l k)=(Bp l).take k++(Aj c++(Bp l).drop (k+1))
 | [],k,hk=>by grind[Bp]
 | t::l,k,hk=>by
  rw[Bp] at hk ⊢;rw[Kh]
  by_cases h:k<(Aj t).length
  .rw[Ap h]
   simp only[AN,Bp];rw[Ov t k h,XY (by omega),List.drop_append_of_le_length (by omega)];simp
  .rw[Aw h]
   simp only[AH,Bp];have hk':k-(Aj t).length<(Bp l).length:=by grind
   have e1:(Aj t).take k=Aj t:=CL (by omega);have e2:(Aj t).drop (k+1)=[]:=Bt (by omega);rw[aL l _ hk',List.take_append,e1,List.drop_append,e2]
   grind
end
mutual
theorem u6:∀(b:Ty) (k:Nat),∀i∈vis (QB c b k),i∈vis b\/i∈vis c
 | .mk q n j ts,k,i,hi=>by
  rw[QB] at hi;cases b5:(q==5) with
  | true=>
   grind
  | false=>
   rw[b5] at hi;cases b3:(q==3) with
   | true=>
    rw[b3] at hi;simp only[AH,AN] at hi;rw[vis,b5,b3] at hi ⊢;simp only[AH,HB,AN] at hi ⊢;exact kD ts k i hi
   | false=>
    grind
theorem kD:∀(l:List Ty) (k:Nat),∀i∈Ef (Kh c l k),i∈Ef l\/i∈vis c
 | [],k,i,hi=>by grind[Kh]
 | t::l,k,i,hi=>by
  rw[Kh] at hi;simp only[Ef,B9];cases b:decide (k<(Aj t).length) with
  | true=>
   rw[b] at hi;simp only[AN,Ef,B9] at hi;rcases hi with hi|hi
   .rcases u6 t k i hi with h|h
    all_goals grind
   grind
  | false=>
   rw[b] at hi;simp only[AH,Ef,B9] at hi;rcases hi with hi|hi
   .grind
   .rcases kD l _ i hi with h|h
    all_goals grind
end
mutual
theorem AEz (p:Int->Bool):∀(b:Ty) (k:Nat),oI p (QB c b k)=true->oI p b=true\/oI p c=true
 | .mk q n j ts,k,hi=>by
  rw[QB] at hi;cases b5:(q==5) with
  | true=>
   grind
  | false=>
   rw[b5] at hi;cases b3:(q==3) with
   | true=>
    have h3:q=3:=by grind
    subst h3;simp only[AH,AN,DL] at hi;rw[oI] at hi ⊢;simp only[show((3:Int)==2)=false from rfl,AH,DL,Fb] at hi ⊢;exact u7 p ts k hi
   | false=>
    grind
theorem u7 (p:Int->Bool):∀(l:List Ty) (k:Nat),QA p (Kh c l k)=true->QA p l=true\/oI p c=true
 | [],k,hi=>by grind[Kh]
 | t::l,k,hi=>by
  rw[Kh] at hi;simp only[QA,Di];cases b:decide (k<(Aj t).length) with
  | true=>
   rw[b] at hi;simp only[AN,QA,Di] at hi;rcases hi with hi|hi
   .rcases AEz p t k hi with h|h
    all_goals grind
   grind
  | false=>
   rw[b] at hi;simp only[AH,QA,Di] at hi;rcases hi with hi|hi
   .grind
   .rcases u7 p l _ hi with h|h
    all_goals grind
end
mutual
theorem AE0 (hc:bd c=true):∀(b:Ty) (k:Nat),bd b=true->bd (QB c b k)=true
 | .mk q n j ts,k,h=>by
  rw[QB];cases b5:(q==5) with
  | true=>
   grind
  | false=>
   cases b3:(q==3) with
   | true=>
    have h3:q=3:=by grind
    subst h3;rw[bd] at h;simp only[AH,AN];rw[bd];have:=u9 hc ts k (by grind)
    grind
   | false=>grind
theorem u9 (hc:bd c=true):∀(l:List Ty) (k:Nat),M6 l=true->M6 (Kh c l k)=true
 | [],k,h=>h
 | t::l,k,h=>by
  simp only[M6,AG] at h;rw[Kh];cases decide (k<(Aj t).length) with
  | true=>simp[M6,AE0 hc t k h.1,h.2]
  | false=>simp[M6,u9 hc l _ h.2,h.1]
end
end
mutual
theorem vA:∀(b:Ty),pl b=true->∀i∈vis b,oA (·==i) b=true
 | .mk k n j ts,h,i,hi=>by
  rw[vis] at hi;rw[oA];cases b5:(k==5) with
  | true=>rw[b5] at hi; simp at hi; simp[hi]
  | false=>
   cases b2:(k==2) with
   | true=>
    rw[pl,b5,b2] at h;rw[b5,b2] at hi;simp only[AH,AN,Hv] at h hi;simp[kF ts h i hi]
   | false=>
    have hc:Vw (.mk k n j ts)=true:=by grind[pl]
    have:=fu _ hc
    grind[vis]
theorem kF:∀(l:List Ty),YQ l=true->∀i∈Ef l,Vv (·==i) l=true
 | [],_,i,hi=>by cases hi
 | t::l,h,i,hi=>by
  simp only[YQ,AG] at h;rw[Ef,B9] at hi;rw[Vv,Di];rcases hi with hi|hi
  .exact .inl (vA t h.1 i hi)
  .exact .inr (kF l h.2 i hi)
end
mutual
theorem V2:∀(b:Ty),bd b=true->∀i∈vis b,i∈Aj b\/oI (·==i) b=true
 | .mk k n j ts,h,i,hi=>by
  cases b2:(k==2) with
  | true=>
   grind[pl,bd,oI,vA]
  | false=>
   rw[vis] at hi;rw[Aj,oI];cases b5:(k==5) with
   | true=>grind
   | false=>
    cases b3:(k==3) with
    | true=>
     rw[bd,b5,b2,b3] at h;rw[b5,b2,b3] at hi;simp only[AH,AN,HB] at h hi;have:=TP ts h i hi
     grind
    | false=>
     grind
theorem TP:∀(l:List Ty),M6 l=true->∀i∈Ef l,i∈Bp l\/QA (·==i) l=true
 | [],_,i,hi=>by cases hi
 | t::l,h,i,hi=>by
  simp only[M6,AG] at h;rw[Ef,B9] at hi;rw[Bp,B9,QA,Di];rcases hi with hi|hi
  .rcases V2 t h.1 i hi with h' | h'
   all_goals grind
  .rcases TP l h.2 i hi with h' | h'
   all_goals grind
end
mutual
theorem vB (p:Int->Bool):∀(b:Ty),oI p b=true->∃i∈vis b,p i=true
 | .mk k n j ts,h=>by
  rw[oI] at h;cases b2:(k==2) with
  | true=>
   rw[b2] at h;simp only[AN] at h;exact vC p _ h
  | false=>
   rw[b2] at h;simp only[AH,AG] at h;have h3:k=3:=by grind
   subst h3;rw[vis];simpa using kG p ts h.2
theorem kG (p:Int->Bool):∀(l:List Ty),QA p l=true->∃i∈Ef l,p i=true
 | [],h=>by cases h
 | t::l,h=>by
  rw[QA,Di] at h;rw[Ef];rcases h with h|h
  .obtain⟨i,h1,h2⟩:=vB p t h
   grind
  .obtain⟨i,h1,h2⟩:=kG p l h
   grind
theorem vC (p:Int->Bool):∀(b:Ty),oA p b=true->∃i∈vis b,p i=true
 | .mk k n j ts,h=>by
  rw[oA] at h;rw[vis];cases b5:(k==5) with
  | true=>
   grind
  | false=>
   rw[b5] at h;simp only[AH,AG] at h;simpa[h.1] using kH p ts h.2
theorem kH (p:Int->Bool):∀(l:List Ty),Vv p l=true->∃i∈Ef l,p i=true
 | [],h=>by cases h
 | t::l,h=>by
  rw[Vv,Di] at h;rw[Ef];rcases h with h|h
  .obtain⟨i,h1,h2⟩:=vC p t h
   grind
  .obtain⟨i,h1,h2⟩:=kH p l h
   grind
end
mutual
def inst (σ:List Nat) (u:Nat):Ty->Ty
 | .mk k n i ts=>bif k==5 then(bif decide ((u:Int)<=i) then(match σ[(i-u).toNat]? with
  | some v=>ph v
  | none=>.mk k n i ts) else .mk k n i ts) else .mk k n i (Db σ u k 0 ts)
def Db (σ:List Nat) (u:Nat) (k:Int) (j:Nat):List Ty->List Ty
 | []=>[]
 | t::l=>inst σ (u+Ec k j) t::Db σ u k (j+1) l
end
theorem D9 {u:Nat} {k i:Int} {n:List UInt8} {ts:List Ty} (h:Cv u (.mk k n i ts)=true) (h5:k≠5):D8 u k 0 ts=true:=by grind[Cv]
theorem ME {u:Nat} {i:Int} {n:List UInt8} {ts:List Ty} (h:Cv u (.mk 5 n i ts)=true):i<u:=by grind[Cv]
theorem I2 {n:List UInt8} {i:Int} {ts:List Ty} (h:valid (.mk 5 n i ts)=true):n=[]/\ts=[]/\0<=i:=by grind[valid,root,shape]
mutual
theorem Iu (σ:List Nat):∀(t:Ty) (u:Nat),valid t=true->Cv u t=true->inst σ u t=t
 | .mk k n i ts,u,hv,hc=>by
  rw[inst]
  by_cases h5:k=5
  .subst h5
   have:=ME hc
   grind
  .have b5:(k==5)=false:=by grind
   simp only[valid,AG] at hv;rw[b5];simp only[AH];rw[aM σ ts u k 0 hv.2 (D9 hc h5)]
theorem aM (σ:List Nat):∀(l:List Ty) (u:Nat) (k:Int) (j:Nat),BT l=true->D8 u k j l=true->Db σ u k j l=l
 | [],_,_,_,_,_=>rfl
 | t::l,u,k,j,hv,hc=>by
  simp only[BT,AG] at hv;simp only[D8,AG] at hc;rw[Db,Iu σ t _ hv.1 hc.1,aM σ l u k (j+1) hv.2 hc.2]
end
mutual
theorem Ki (v:Nat) (σ:List Nat):∀(t:Ty) (u:Nat),valid t=true->Cv (u+1+σ.length) t=true->sub v u (inst σ (u+1) t)=inst (v::σ) u t
 | .mk k n i ts,u,hv,hc=>by
  rw[inst,inst]
  by_cases h5:k=5
  .subst h5
   have hi:=ME hc;obtain⟨rfl,rfl,h0⟩:=I2 hv;simp only[DL,AN]
   by_cases hu:(u:Int)+1<=i
   .have h1:((u+1:Nat):Int)<=i:=by omega
    have h2:(u:Int)<=i:=by omega
    rw[Ap h1,Ap h2];simp only[AN];have e:(i-(u:Int)).toNat=(i-((u+1:Nat):Int)).toNat+1:=by omega
    rw[e,Ig];obtain⟨w,hw⟩:∃w,σ[(i-((u+1:Nat):Int)).toNat]?=some w:=⟨_,Ak (by omega)⟩
    simp_all[sub,KE]
   grind[sub]
  .have b5:(k==5)=false:=by grind
   simp only[valid,AG] at hv;rw[b5];simp only[AH];rw[sub,b5];simp only[AH];rw[V3 v σ ts u k 0 hv.2 (D9 hc h5)]
theorem V3 (v:Nat) (σ:List Nat):∀(l:List Ty) (u:Nat) (k:Int) (j:Nat),BT l=true->D8 (u+1+σ.length) k j l=true->KE v u k j (Db σ (u+1) k j l)=Db (v::σ) u k j l
 | [],_,_,_,_,_=>rfl
 | t::l,u,k,j,hv,hc=>by
  simp only[BT,AG] at hv;simp only[D8,AG] at hc;rw[Db,KE,Db];have e:u+1+Ec k j=u+Ec k j+1:=by omega
  rw[e,Ki v σ t (u+Ec k j) hv.1 (by grind),V3 v σ l u k (j+1) hv.2 hc.2]
end
theorem Q8 {n:List UInt8} {i:Int} {ts:List Ty} (h:valid (.mk 2 n i ts)=true):Ft ts=true:=by grind[valid,root,shape]
mutual
theorem Nk (σ:List Nat):∀(t:Ty),valid t=true->plain t=true->Cv σ.length t=true->pl t=true/\inst σ 0 t=tr (λi=>σ.getD i.toNat 0) t
 | .mk k n i ts,hv,hp,hc=>by
  by_cases h5:k=5
  .subst h5
   obtain⟨rfl,rfl,h0⟩:=I2 hv;have hi:=ME hc
   grind[pl,inst,CH]
  .have b5:(k==5)=false:=by grind
   by_cases h2:k=2
   .subst h2
    have Kc:=Q8 hv;simp only[valid,AG] at hv;obtain⟨q1,q2⟩:=Q9 σ ts 2 (by decide) 0 hv.2 Kc (D9 hc (by decide))
    grind[pl,inst,CH]
   grind[plain,Vw,pl,Iu,Mk]
theorem Q9 (σ:List Nat):∀(l:List Ty) (k:Int),k≠6->∀(j:Nat),BT l=true->Ft l=true->D8 σ.length k j l=true->YQ l=true/\Db σ 0 k j l=TN (λi=>σ.getD i.toNat 0) l
 | [],_,_,_,_,_,_=>⟨rfl,rfl⟩
 | t::l,k,h6,j,hv,hp,hc=>by
  simp only[BT,AG] at hv;simp only[Ft,AG] at hp;have b6:(k==6)=false:=by grind
  have hb:Ec k j=0:=by simp[Ec,b6]
  simp only[D8,AG,hb,Gc] at hc;obtain⟨q1,q2⟩:=Nk σ t hv.1 hp.1 hc.1;obtain⟨r1,r2⟩:=Q9 σ l k h6 (j+1) hv.2 hp.2 hc.2;refine⟨by grind[YQ],?_⟩;rw[Db,hb,Gc,q2,r2];rfl
end
mutual
theorem QD (u:Nat):∀(t:Ty),valid t=true->Cv u t=true->∀i∈vis t,0<=i/\i<u
 | .mk k n j ts,hv,hc,i,hi=>by
  rw[vis] at hi
  by_cases h5:k=5
  .subst h5
   obtain⟨rfl,rfl,h0⟩:=I2 hv;have:=ME hc
   grind
  .have b5:(k==5)=false:=by grind
   rw[b5] at hi;cases b:(k==2||k==3) with
   | false=>grind
   | true=>
    rw[b] at hi;simp only[AH,AN] at hi;simp only[valid,AG] at hv;exact TQ u ts k (by grind) 0 hv.2 (D9 hc h5) i hi
theorem TQ (u:Nat):∀(l:List Ty) (k:Int),k≠6->∀(j:Nat),BT l=true->D8 u k j l=true->∀i∈Ef l,0<=i/\i<u
 | [],_,_,_,_,_,i,hi=>by cases hi
 | t::l,k,h6,j,hv,hc,i,hi=>by
  simp only[BT,AG] at hv;have b6:(k==6)=false:=by grind
  have hb:Ec k j=0:=by simp[Ec,b6]
  simp only[D8,AG,hb,Gc] at hc;rw[Ef,B9] at hi;rcases hi with hi|hi
  .exact QD u t hv.1 hc.1 i hi
  .exact TQ u l k h6 (j+1) hv.2 hc.2 i hi
end
end Go.Proofs.YtpgfpakdnijngaaGreatDoor
