/-
  Terms ts plain data; their size and depth.
-/
import Derived.Test.YtpgfpakdnijngaaGreatDoorW1
import Derived.Test.YtpgfpakdnijngaaGreatDoorWpH
set_option linter.all false
namespace Go.Proofs.YtpgfpakdnijngaaGreatDoor
open Go.Tel
attribute [local simp] CI Bs LP LQ AO CU FJ wO setCells CJ D6 DV Cv A0 alive CY F9 I4 nx A6 DC BO Gs Dt DT si qd okB sj sk sq sr su jh sw sx sy s7 s8 s9 tA tB tC tD tE okF tF tG tH tI tJ Xs tK SR SU SV SW tL tM tN tP tQ tR tS tT tU tV Fw tW qe tX tY tZ td th tj tq uA uB uC Cm g0 g1 xI xL xM xF xG xC lf Y4 Y5
inductive Ty where
 | mk (kind:Int) (name:List UInt8) (index:Int) (args:List Ty)
mutual
def Af:Ty->List PV
 | .mk k n i ts=>[.sc (.int .i64 k),.sc (.string ⟨n.toArray⟩),.sc (.int .i64 i),.list (AW ts)]
def AW:List Ty->List (List PV)
 | []=>[]
 | v::vs=>Af v::AW vs
end
theorem H7:∀l,AW l=l.map Af
 | []=>by rfl
 | v::vs=>by simp[AW,H7 vs]
theorem Ac (v:Ty):(Af v).length=4:=by cases v; rfl
theorem AR (l:List Ty):(AW l).length=l.length:=by simp[H7]
theorem BE {l:List Ty} {i:Nat} {a:Ty} (h:l[i]?=some a):(AW l)[i]?=some (Af a):=by grind[H7]
def A5 (v:Ty) (x:AV):Prop:=match v with
 | .mk k n i ts=>∃a,x=.agg [AA k,SS n,AA i,a]/\Aq a (AW ts)
theorem A5.BZ (v:Ty):A5 v (.agg ((Af v).map .pv)):=by
 cases v with
 | mk k n s es=>exact⟨_,by rfl,.list _⟩
theorem drop_cons {α:Type} {l:List α} {i:Nat} {a:α} (h:l[i]?=some a):l.drop i=a::l.drop (i+1):=by grind[List.drop_eq_getElem_cons]
mutual
def size:Ty->Nat
 | .mk _ _ _ ts=>AZ ts+1
def AZ:List Ty->Nat
 | []=>0
 | a::l=>size a+AZ l
end
mutual
def depth:Ty->Nat
 | .mk _ _ _ ts=>Ep ts+1
def Ep:List Ty->Nat
 | []=>0
 | a::l=>max (depth a) (Ep l)
end
theorem size_pos (t:Ty):0<size t:=by cases t; simp[size]
theorem BP:∀l:List Ty,l.length<=AZ l
 | []=>by simp
 | a::l=>by
  have:=size_pos a;have:=BP l
  grind[AZ]
mutual
theorem SX:∀t:Ty,depth t<=size t
 | .mk _ _ _ ts=>by
  have:=VR ts
  grind[depth,size]
theorem VR:∀l:List Ty,Ep l<=AZ l
 | []=>by simp[Ep]
 | a::l=>by
  have:=SX a;have:=VR l
  grind[Ep,AZ]
end
theorem Fj:∀{l:List Ty} {a:Ty},a∈l->size a<=AZ l
 | [],_,h=>by cases h
 | b::l,a,h=>by
  simp only[AZ];rcases A1.1 h with rfl|h
  .omega
  .have:=Fj h; omega
section
variable {R:Nat->Option (List PV)}
theorem n7 {ts:List Ty} {a:AV} (ha:Aq a (AW ts)) (hl:AZ ts<2 ^ 60) (ih:∀t∈ts,AL (env R) 84 [.agg ((Af t).map .pv)] λr=>r=AA (size t)) {Post:AV->Prop} :
  ∀(j i c:Nat) (s:AM),i+j=ts.length->c+AZ (ts.drop i)<2 ^ 61->Post (AA ((c+AZ (ts.drop i):Nat):Int))->ji R 0 0 0 (AA c) a (AA ts.length) (AA i) s (QP Post):=by
 have UT:=BP ts;intro j
 induction j with
 | zero=>
  intro i c s hi hc hP;refine AEb ?_;have h1:¬ ((i:Int)<ts.length):=by omega
  simp[h1];refine AOq ?_
  simp_all[QP,AZ]
 | succ j D2=>
  intro i c s hi hc hP;refine AEb ?_;have h1:((i:Int)<ts.length):=by omega
  obtain⟨t,ht⟩:∃t,ts[i]?=some t:=⟨_,Ak (by omega)⟩;have hd:=drop_cons ht;rw[hd] at hP hc;simp only[AZ] at hP hc;simp[h1];refine AOr ?_;refine BI ha (row:=Af t) (by omega) (by grind[BE]) (Ac t) (by omega) ?_;have e3:=ih t (A2 ht);have e4:size t<=AZ ts:=Fj (A2 ht);obtain⟨k,n,x,es⟩:=t;simp only[Af,CH,Cs] at e3;simp[Af,Rc,SY,Re,SZ];refine AD e3 ?_;rintro v rfl;simp only[CY,xI];refine⟨⟨Ae,Ae⟩,B7 (by omega) (by omega) (AOs ?_)⟩;simp only[CY,xI];refine⟨⟨Ae,Ae⟩,B7 (by omega) (by omega) ?_⟩;have:=D2 (i+1) (c+size (.mk k n x es)) ⟨s.bs++[[AA k,SS n,AA x,.pv (.list (AW es))]],s.ts⟩ (by omega) (by omega) (by grind)
  grind
mutual
theorem PY:∀(t:Ty),size t<2 ^ 60->∀(x:AV),A5 t x->AL (env R) 84 [x] λr=>r=AA (size t)
 | .mk k n i ts,h,x,hx=>by
  obtain⟨a,rfl,ha⟩:=hx;simp only[size] at h;have ih:=Sa ts (by omega);refine e84 (u0:=.agg [AA k,SS n,AA i,a]) (by simp[ha.close]) (AOt ?_);simp[ha.ok,ha.A7,AR];refine n7 ha (by omega) ih ts.length 0 1 _ (by omega) (by grind) ?_
  grind[size]
theorem Sa:∀(l:List Ty),AZ l<2 ^ 60->∀t∈l,AL (env R) 84 [.agg ((Af t).map .pv)] λr=>r=AA (size t)
 | [],_,_,h=>by cases h
 | e::l,ho,a,h=>by
  simp only[AZ] at ho;rcases A1.1 h with h' | h'
  .rw[h']
   exact PY e (by omega) _ (A5.BZ e)
  .exact Sa l (by omega) a h'
end
end
section
variable {R:Nat->Option (List PV)}
theorem eU {k i:Int} {n:List UInt8} {ts:List Ty} {a:AV} (ha:Aq a (AW ts)) (hl:AZ ts<2 ^ 60) (ih:∀t∈ts,AL (env R) 71 [.agg ((Af t).map .pv)] λr=>r=AA (size t)) {Post:AV->Prop} :
  ∀(j q c:Nat),q+j=ts.length->c+AZ (ts.drop q)<2 ^ 61->Post (AA ((c+AZ (ts.drop q):Nat):Int))->jk R 0 0 0 (.ptr 0 0) (AA c) (AA q) ⟨[[AA k,SS n,AA i,a]],[]⟩ (QP Post):=by
 have UT:=BP ts;intro j
 induction j with
 | zero=>
  intro q c hi hc hP;refine AEc ?_;have h1:¬ ((q:Int)<ts.length):=by omega
  simp[ha.A7,AR,h1];refine AOu ?_
  simp_all[QP,AZ]
 | succ j D2=>
  intro q c hi hc hP;refine AEc ?_;have h1:((q:Int)<ts.length):=by omega
  obtain⟨t,ht⟩:∃t,ts[q]?=some t:=⟨_,Ak (by omega)⟩;have hd:=drop_cons ht;rw[hd] at hP hc;simp only[AZ] at hP hc;simp[ha.A7,AR,h1];refine AOv ?_;simp;refine BI ha (row:=Af t) (by omega) (by grind[BE]) (Ac t) (by omega) ?_;have e3:=ih t (A2 ht);have e4:size t<=AZ ts:=Fj (A2 ht);obtain⟨k,n,x,es⟩:=t;simp only[Af,CH,Cs] at e3;simp[Af];refine AD e3 ?_;rintro v rfl;simp only[CY,xI];refine⟨⟨Ae,Ae⟩,B7 (by omega) (by omega) (AOw ?_)⟩;simp only[CY,xI];refine⟨⟨Ae,Ae⟩,B7 (by omega) (by omega) ?_⟩;have:=D2 (q+1) (c+size (.mk k n x es)) (by omega) (by omega) (by simpa[W4] using hP);simpa using this
mutual
theorem NL:∀(t:Ty),size t<2 ^ 60->∀(x:AV),A5 t x->AL (env R) 71 [x] λr=>r=AA (size t)
 | .mk k n i ts,h,x,hx=>by
  obtain⟨a,rfl,ha⟩:=hx;simp only[size] at h;have ih:=Qe ts (by omega);refine e71 (u0:=.agg [AA k,SS n,AA i,a]) (by simp[ha.close]) (AOx ?_);simp[ha.ok];refine eU ha (by omega) ih ts.length 0 1 (by omega) (by grind) ?_
  grind[size]
theorem Qe:∀(l:List Ty),AZ l<2 ^ 60->∀t∈l,AL (env R) 71 [.agg ((Af t).map .pv)] λr=>r=AA (size t)
 | [],_,_,h=>by cases h
 | e::l,ho,a,h=>by
  simp only[AZ] at ho;rcases A1.1 h with h' | h'
  .rw[h']
   exact NL e (by omega) _ (A5.BZ e)
  .exact Qe l (by omega) a h'
end
theorem eV {ts:List Ty} {a:AV} (ha:Aq a (AW ts)) (hl:AZ ts<2 ^ 60) (ih:∀t∈ts,AL (env R) 85 [.agg ((Af t).map .pv)] λr=>r=AA (depth t)) {Post:AV->Prop} :
  ∀(j i c:Nat) (s:AM),i+j=ts.length->c<2 ^ 60->Post (AA ((max c (Ep (ts.drop i))+1:Nat):Int))->jl R 0 0 0 (AA c) a (AA ts.length) (AA i) s (QP Post):=by
 have UT:=BP ts;intro j
 induction j with
 | zero=>
  intro i c s hi hc hP;refine AEd ?_;have h1:¬ ((i:Int)<ts.length):=by omega
  simp[h1];refine AOy ?_;have h2:ts.drop i=[]:=Bu (by omega);rw[h2] at hP;simp only[Ep,Nat.max_zero] at hP;simp only[CY,xI];refine⟨⟨Ae,Ae⟩,B7 (by omega) (by omega) ?_⟩;exact⟨_,Fw,by grind⟩
 | succ j D2=>
  intro i c s hi hc hP;refine AEd ?_;have h1:((i:Int)<ts.length):=by omega
  obtain⟨t,ht⟩:∃t,ts[i]?=some t:=⟨_,Ak (by omega)⟩;have hd:=drop_cons ht;rw[hd] at hP;simp only[Ep] at hP;simp[h1];refine AOz ?_;refine BI ha (row:=Af t) (by omega) (by grind[BE]) (Ac t) (by omega) ?_;have e3:=ih t (A2 ht);have e4:size t<=AZ ts:=Fj (A2 ht);have e5:=SX t;obtain⟨k,n,x,es⟩:=t;simp only[Af,CH,Cs] at e3;simp[Af,Rc,SY,Re,SZ];refine AD e3 ?_;rintro v rfl;refine VS (x:=.tmp 13) (y:=.tmp 15) (t:=#[3,3]) (by rfl) rfl rfl (AO0 ?_);simp only[CY,xI];refine⟨⟨Ae,Ae⟩,B7 (by omega) (by omega) ?_⟩;have:=D2 (i+1) (max c (depth (.mk k n x es))) ⟨s.bs++[[AA k,SS n,AA x,.pv (.list (AW es))]],s.ts⟩ (by omega) (by omega) (by grind)
  grind
mutual
theorem Sc:∀(t:Ty),size t<2 ^ 60->∀(x:AV),A5 t x->AL (env R) 85 [x] λr=>r=AA (depth t)
 | .mk k n i ts,h,x,hx=>by
  obtain⟨a,rfl,ha⟩:=hx;simp only[size] at h;have ih:=Qf ts (by omega);refine e85 (u0:=.agg [AA k,SS n,AA i,a]) (by simp[ha.close]) (AO1 ?_);simp[ha.ok,ha.A7,AR];refine eV ha (by omega) ih ts.length 0 0 _ (by omega) (by omega) ?_;rfl
theorem Qf:∀(l:List Ty),AZ l<2 ^ 60->∀t∈l,AL (env R) 85 [.agg ((Af t).map .pv)] λr=>r=AA (depth t)
 | [],_,_,h=>by cases h
 | e::l,ho,a,h=>by
  simp only[AZ] at ho;rcases A1.1 h with h' | h'
  .rw[h']
   exact Sc e (by omega) _ (A5.BZ e)
  .exact Qf l (by omega) a h'
end
theorem Zm {k i:Int} {n:List UInt8} {ts:List Ty} {a:AV} (ha:Aq a (AW ts)) (hl:AZ ts<2 ^ 60) (ih:∀t∈ts,AL (env R) 72 [.agg ((Af t).map .pv)] λr=>r=AA (depth t)) {Post:AV->Prop} :
  ∀(j q c:Nat),q+j=ts.length->c<2 ^ 60->Post (AA ((max c (Ep (ts.drop q))+1:Nat):Int))->jm R 0 0 0 (.ptr 0 0) (AA c) (AA q) ⟨[[AA k,SS n,AA i,a]],[]⟩ (QP Post):=by
 have UT:=BP ts;intro j
 induction j with
 | zero=>
  intro q c hi hc hP;refine AEe ?_;have h1:¬ ((q:Int)<ts.length):=by omega
  simp[ha.A7,AR,h1];refine AO2 ?_;have h2:ts.drop q=[]:=Bu (by omega);rw[h2] at hP;simp only[Ep,Nat.max_zero] at hP;simp only[CY,xI];refine⟨⟨Ae,Ae⟩,B7 (by omega) (by omega) ?_⟩;exact⟨_,Fw,by grind⟩
 | succ j D2=>
  intro q c hi hc hP;refine AEe ?_;have h1:((q:Int)<ts.length):=by omega
  obtain⟨t,ht⟩:∃t,ts[q]?=some t:=⟨_,Ak (by omega)⟩;have hd:=drop_cons ht;rw[hd] at hP;simp only[Ep] at hP;simp[ha.A7,AR,h1];refine AO3 ?_;simp;refine BI ha (row:=Af t) (by omega) (by grind[BE]) (Ac t) (by omega) ?_;have e3:=ih t (A2 ht);have e4:size t<=AZ ts:=Fj (A2 ht);have e5:=SX t;obtain⟨k,n,x,es⟩:=t;simp only[Af,CH,Cs] at e3;simp[Af];refine AD e3 ?_;rintro v rfl;refine VS (x:=.tmp 12) (y:=.tmp 18) (t:=#[3,3]) (by rfl) rfl rfl (AO4 ?_);simp only[CY,xI];refine⟨⟨Ae,Ae⟩,B7 (by omega) (by omega) ?_⟩;have:=D2 (q+1) (max c (depth (.mk k n x es))) (by omega) (by omega) (by grind)
  grind
mutual
theorem Qg:∀(t:Ty),size t<2 ^ 60->∀(x:AV),A5 t x->AL (env R) 72 [x] λr=>r=AA (depth t)
 | .mk k n i ts,h,x,hx=>by
  obtain⟨a,rfl,ha⟩:=hx;simp only[size] at h;have ih:=OV ts (by omega);refine e72 (u0:=.agg [AA k,SS n,AA i,a]) (by simp[ha.close]) (AO5 ?_);simp[ha.ok];refine Zm ha (by omega) ih ts.length 0 0 (by omega) (by omega) ?_;rfl
theorem OV:∀(l:List Ty),AZ l<2 ^ 60->∀t∈l,AL (env R) 72 [.agg ((Af t).map .pv)] λr=>r=AA (depth t)
 | [],_,_,h=>by cases h
 | e::l,ho,a,h=>by
  simp only[AZ] at ho;rcases A1.1 h with h' | h'
  .rw[h']
   exact Qg e (by omega) _ (A5.BZ e)
  .exact OV l (by omega) a h'
end
end
def Ea (k:Int) (j:Nat):Nat:=bif k==6&&j==1 then 1 else 0
mutual
def Co (u:Nat):Ty->Bool
 | .mk k _ i ts=>bif k==5&&decide ((u:Int)<=i) then false else D7 u k 0 ts
def D7 (u:Nat) (k:Int) (j:Nat):List Ty->Bool
 | []=>true
 | t::l=>Co (u+Ea k j) t&&D7 u k (j+1) l
end
mutual
theorem OW:∀t:Ty,Le (Af t) (Af t)=true
 | .mk k n i ts=>by simp[Af,Le,Mm,FX,Ht,DJ ts]
theorem DJ:∀l:List Ty,IV (AW l) (AW l)=true
 | []=>by rfl
 | t::l=>by simp[AW,IV,OW t,DJ l]
end
theorem PZ (k:Int) (j:Nat):Ea k j<=1:=by grind[Ea]
section
variable {R:Nat->Option (List PV)}
theorem K5 {k i:Int} {n:List UInt8} {a:AV} {rows:List (List PV)} (ha:Aq a rows) (j:Nat):AL (env R) 119 [.agg [AA k,SS n,AA i,a],AA j] λr=>r=AA (Ea k j):=by
 refine AWC (u0:=.agg [AA k,SS n,AA i,a]) (u1:=AA j) (by simp[ha.close]) (AJK ?_);have h2:(((j:Int))==1)=(j==1):=by grind
 cases h1:(k==6) with
 | false=>
  simp[-beq_iff_eq,ha.ok,h1];refine uD ?_;simp[*,QP,Ea]
 | true=>
  cases h3:(j==1) with
  | false=>
   rw[h3] at h2;simp[-beq_iff_eq,ha.ok,h1,h2];refine uD ?_;simp[*,QP,Ea]
  | true=>
   rw[h3] at h2;simp[-beq_iff_eq,QP,QI,ha.ok,h1,h2,Ea,h3]
theorem Um {k i:Int} {n:List UInt8} {a:AV} {rows:List (List PV)} (ha:Aq a rows) (j:Nat):AL (env R) 151 [.agg [AA k,SS n,AA i,a],AA j] λr=>r=AA (Ea k j):=by
 refine AWD (u0:=.agg [AA k,SS n,AA i,a]) (u1:=AA j) (by simp[ha.close]) (AJL ?_);have h2:(((j:Int))==1)=(j==1):=by grind
 cases h1:(k==6) with
 | false=>
  simp[-beq_iff_eq,ha.ok,h1];refine uE ?_;simp[*,QP,Ea]
 | true=>
  cases h3:(j==1) with
  | false=>
   rw[h3] at h2;simp[-beq_iff_eq,ha.ok,h1,h2];refine uE ?_;simp[*,QP,Ea]
  | true=>
   rw[h3] at h2;simp[-beq_iff_eq,QP,QI,ha.ok,h1,h2,Ea,h3]
theorem Zn {k i:Int} {n:List UInt8} {ts:List Ty} {a:AV} {u:Nat} (ha:Aq a (AW ts)) (hl:AZ ts<2 ^ 60) (hu:u<2 ^ 60)
  (ih:∀t∈ts,∀v,v<=u+1->AL (env R) 141 [.agg ((Af t).map .pv),AA v] λr=>r=BB (Co v t)) {Post:AV->Prop} :
  ∀(j q:Nat) (m:List (List AV)),q+j=ts.length->Post (BB (D7 u k q (ts.drop q)))->Xt R 0 0 0 (AA u) (.ptr 0 0) a (AA ts.length) (AA q) ⟨[AA k,SS n,AA i,a]::m,[]⟩ (QP Post):=by
 have UT:=BP ts;intro j
 induction j with
 | zero=>
  intro q m hi hP;refine uF ?_;have h1:¬ ((q:Int)<ts.length):=by omega
  simp[h1];refine AJM ?_
  simp_all[QP,D7]
 | succ j D2=>
  intro q m hi hP;refine uF ?_;have h1:((q:Int)<ts.length):=by omega
  obtain⟨t,ht⟩:∃t,ts[q]?=some t:=⟨_,Ak (by omega)⟩;have hd:=drop_cons ht;rw[hd] at hP;simp only[D7] at hP;simp[h1];refine AJN ?_;refine BI ha (row:=Af t) (by omega) (by grind[BE]) (Ac t) (by omega) ?_;have hb:=PZ k q;have e3:=ih t (A2 ht) (u+Ea k q) (by omega);obtain⟨k',n',x,es⟩:=t;simp only[Af,CH,Cs] at e3;simp[Af,Rc,SY,Re,SZ];refine AD (K5 ha q) ?_;rintro v rfl;simp only[CY,xI];refine⟨⟨Ae,Ae⟩,B7 (by omega) (by omega) ?_⟩;have ec:(u:Int)+(Ea k q:Int)=((u+Ea k q:Nat):Int):=by omega
  rw[ec];refine AD e3 ?_;rintro v rfl;cases hc:Co (u+Ea k q) (.mk k' n' x es) with
  | false=>
   rw[hc] at hP;simp[QP,QI,Bg,Hx,Mm,FX,Ht,DJ]
   grind
  | true=>
   rw[hc] at hP;simp[Bg,Hx,Mm,FX,Ht,DJ];refine AJO ?_;simp only[CY,xI];refine⟨⟨Ae,Ae⟩,B7 (by omega) (by omega) ?_⟩;have:=D2 (q+1) (m++[[AA k',SS n',AA x,.pv (.list (AW es))]]) (by omega) (by simpa using hP);simpa using this
mutual
theorem Ls:∀(t:Ty),size t<2 ^ 60->∀(u:Nat),u+size t<2 ^ 60->∀(x:AV),A5 t x->AL (env R) 141 [x,AA u] λr=>r=BB (Co u t)
 | .mk k n i ts,h,u,hu,x,hx=>by
  obtain⟨a,rfl,ha⟩:=hx;simp only[size] at h hu;have ih:=OX ts (by omega) (u+1) (by omega)
  suffices H:∀Post:AV->Prop,Post (BB (Co u (.mk k n i ts)))->eW R 0 0 0 (.agg [AA k,SS n,AA i,a]) (AA u) ⟨[],[]⟩ (QP Post) from
   AWE (u0:=.agg [AA k,SS n,AA i,a]) (u1:=AA u) (by simp[ha.close]) (H _ rfl)
  intro Post GV;refine AJP ?_;simp only[Co] at GV
  have go:Post (BB (D7 u k 0 ts))->eX R 0 0 0 (AA u) (.ptr 0 0) ⟨[[AA k,SS n,AA i,a]],[]⟩ (QP Post):=by
   intro hP;refine AJQ ?_;simp[ha.A7,AR];exact Zn (m:=[]) ha (by omega) (by omega) ih ts.length 0 (by omega) (by grind)
  cases h1:(k==5) with
  | false=>
   rw[h1] at GV;simp[-beq_iff_eq,ha.ok,h1]
   grind
  | true=>
   rw[h1] at GV;cases h2:decide ((u:Int)<=i) with
   | true=>
    rw[h2] at GV;simpa[-beq_iff_eq,-decide_eq_true_eq,QP,QI,ha.ok,h1,h2] using GV
   | false=>
    rw[h2] at GV;simp[-beq_iff_eq,-decide_eq_false_iff_not,ha.ok,h1,h2]
    grind
theorem OX:∀(l:List Ty),AZ l<2 ^ 60->∀(w:Nat),w+AZ l<2 ^ 60->∀t∈l,∀v,v<=w->AL (env R) 141 [.agg ((Af t).map .pv),AA v] λr=>r=BB (Co v t)
 | [],_,_,_,_,h=>by cases h
 | e::l,ho,w,hw,a,h=>by
  simp only[AZ] at ho hw;rcases A1.1 h with h' | h'
  .rw[h']
   exact λv hv=>Ls e (by omega) v (by omega) _ (A5.BZ e)
  .exact OX l (by omega) w (by omega) a h'
end
end
theorem Jv {l:List Int} {i:Nat} {n:Int} (h:l[i]?=some n):(AX l)[i]?=some [.sc (.int .i64 n)]:=by grind[AX]
theorem uG {a:AV} {ts:List Ty} (h:Aq a (AW ts)):Bg a a=true:=by
 rcases h with rfl|rfl <;> simp[Bg,Mm,DJ]
theorem K6:∀l:List Int,IV (AX l) (AX l)=true
 | []=>by rfl
 | t::l=>by
  have:=K6 l
  grind[AX,IV,Le,Mm,FX]
section
variable {R:Nat->Option (List PV)}
theorem Zo {l:List Int} {x:AV} (hx:Aq x (AX l)) (hl:l.length<2 ^ 40) (v:Int) {Post:AV->Prop} (hP:∀r m,Aq r (AX m)->m≠[]->m.length<=l.length+1->Post r) (q:Nat) (hq:q<=l.length) :
  eY R 0 0 0 x (AA v) (AA q) ⟨[],[]⟩ (QP Post):=by
 refine AJR ?_;have hlen:(AX l).length=l.length:=BV l;have hall:((AX l).all λr=>r.length==1)=true:=by grind[DR]
 have slc:∀(lo hi:Option AV) (a b:Nat) (s:AM) (K:AV->Prop),Fa 0 lo=some a->Fa l.length hi=some b->a<=b->b<=l.length->K (.pv (.list (((AX l).take b).drop a)))->Xu s 1 x lo hi none K:=by
  intro lo hi a b s K h1 h2 h3 h4 hK;have hr:=hx.rowsOf;rcases hx with rfl|rfl
  .simp only[Xu,hr,wO,hlen]
   exact⟨a,b,h1,h2,⟨h3,h4,hall⟩,hK⟩
  .simp only[Xu,hr,wO,hlen]
   exact⟨a,b,h1,h2,⟨h3,h4,hall⟩,hK⟩
 have hq1:Fa 0 (some (AA q))=some q:=by rfl
 have hq2:Fa l.length (some (AA q))=some q:=by rfl
 have e0:((AX l).take q).drop 0=AX (l.take q):=by simp[*,AX]
 have e1:((AX l).take l.length).drop q=AX (l.drop q):=by grind[AX,List.map_drop]
 simp[CV,FY,FJ,wO,Cm,CB];refine slc none (some (AA q)) 0 q _ _ rfl hq2 (by omega) hq ?_;rw[e0];have hL:∀(m:List Int),m.length=(AX m).length:=λm=>(BV m).symm
 refine Pa (ts:=[]) (x:=[]) (rows:=[]) (m:=AX (l.take q)) (.inl rfl) (by simp) (by simp) DR (by omega) (Db (.inl (.list _)) DR) NM (by grind) (by grind) ?_;intro a1 x1 ha1;simp[CV,FY,FJ,wO,Cm,CB,setCells];refine Pa (ts:=[]) (m:=AX [v]) ha1 (by simp) (by grind) DR (by omega) (Db (.inl (.AB _)) DR) NM (by grind) (by grind) ?_;intro a2 x2 Q1;refine slc (some (AA q)) none q l.length _ _ hq1 rfl hq (by omega) ?_;rw[e1];have e2:[]++AX (l.take q)++AX [v]=AX (l.take q++[v]):=by simp[AX]
 rw[e2] at Q1;refine Pa (ts:=[]) (m:=AX (l.drop q)) Q1 (by simp) DR DR (by omega) (Db (.inl (.list _)) DR) NM (by grind) (by grind) ?_;intro a3 x3 ha3;have e3:AX (l.take q++[v])++AX (l.drop q)=AX (l.take q++[v]++l.drop q):=by simp[AX]
 rw[e3] at ha3;refine⟨?_,?_,?_⟩
 .refine slc (some (AA q)) none q l.length _ _ hq1 rfl hq (by omega) ?_
  grind[Bg,Mm,K6]
 .refine slc (some (AA q)) none q l.length _ _ hq1 rfl hq (by omega) ?_
  grind[Bg,Mm,K6]
 .obtain⟨v',h1,h2⟩:=ha3.Ax.closed ([]:List (List AV)) 0
  exact⟨v',h1,hP _ _ h2 (by simp) (by grind)⟩
theorem Zp {l:List Int} {x:AV} (hx:Aq x (AX l)) (hl:l.length<2 ^ 40) (v:Int) {Post:AV->Prop} (hP:∀r m,Aq r (AX m)->m≠[]->m.length<=l.length+1->Post r) (q:Nat) (hq:q<=l.length) :
  eZ R 0 0 0 x (AA v) (AA q) ⟨[],[]⟩ (QP Post):=by
 refine AJS ?_;have hlen:(AX l).length=l.length:=BV l
 by_cases h:q<l.length
 .have h1:((q:Int)<l.length):=by omega
  obtain⟨t,ht⟩:∃t,l[q]?=some t:=⟨_,Ak (by omega)⟩;simp[hx.A7,hlen,h1];refine BI hx (row:=[.sc (.int .i64 t)]) (by omega) (by grind[Jv]) rfl (by omega) ?_;simp;refine⟨λ_=>?_,λ_=>Zo hx hl v hP q hq⟩;simp[QP,QI,hx.close]
  grind
 .have h1:¬ ((q:Int)<l.length):=by omega
  simp[hx.A7,hlen,h1]
  grind[Zo]
theorem n9 {l:List Int} {x:AV} (hx:Aq x (AX l)) (hl:l.length<2 ^ 40) (v:Int) {Post:AV->Prop} (hP:∀r m,Aq r (AX m)->m≠[]->m.length<=l.length+1->Post r) :
  ∀(j q:Nat),q+j=l.length->Xv R 0 0 0 x (AA v) (AA q) ⟨[],[]⟩ (QP Post):=by
 have hlen:(AX l).length=l.length:=BV l;intro j
 induction j with
 | zero=>
  intro q hq;refine uH ?_;have h1:¬ ((q:Int)<l.length):=by omega
  simp[hx.A7,hlen,h1]
  grind[Zp]
 | succ j ih=>
  intro q hq;refine uH ?_;have h1:((q:Int)<l.length):=by omega
  obtain⟨t,ht⟩:∃t,l[q]?=some t:=⟨_,Ak (by omega)⟩;simp[hx.A7,hlen,h1];refine BI hx (row:=[.sc (.int .i64 t)]) (by omega) (by simp[*,Jv]) rfl (by omega) ?_;simp;refine⟨λ_=>?_,λ_=>Zp hx hl v hP q (by omega)⟩;refine AJT ?_;simp only[CY,xI];refine⟨⟨Ae,Ae⟩,B7 (by omega) (by omega) ?_⟩;have:=ih (q+1) (by omega)
  grind
theorem Sd {l:List Int} {x:AV} (hx:Aq x (AX l)) (hl:l.length<2 ^ 40) (v:Int):AL (env R) 150 [x,AA v] λr=>∃m,Aq r (AX m)/\m≠[]/\m.length<=l.length+1:=by
 refine AWF (u0:=x) (u1:=AA v) (by simp[hx.close]) (AJU ?_);exact n9 hx hl v (λr m h1 h2 h3=>⟨m,h1,h2,h3⟩) l.length 0 (by omega)
theorem Pb {k i:Int} {n:List UInt8} {ts:List Ty} {a:AV} {u:Nat} (ha:Aq a (AW ts)) (hl:AZ ts<2 ^ 39) (hu:u<2 ^ 60)
  (ih:∀t∈ts,∀v,v<=u+1->∀(l:List Int) (y:AV),Aq y (AX l)->l.length+size t<2 ^ 40 ->
   AL (env R) 126 [.agg ((Af t).map .pv),AA v,y] λr=>∃m,Aq r (AX m)/\(m=[]<->l=[]/\Co v t=true)/\m.length<=l.length+size t) {Post:AV->Prop} :
  ∀(j q:Nat) (l:List Int) (y:AV),Aq y (AX l)->l.length+AZ (ts.drop q)<2 ^ 40->q+j=ts.length ->
   (∀r m,Aq r (AX m)->(m=[]<->l=[]/\D7 u k q (ts.drop q)=true)->m.length<=l.length+AZ (ts.drop q)->Post r) ->
   Xw R 0 0 0 (AA u) y (.ptr 0 0) (AA q) ⟨[[AA k,SS n,AA i,a]],[]⟩ (QP Post):=by
 have UT:=BP ts;intro j
 induction j with
 | zero=>
  intro q l y hy hc hi hP;refine uI ?_;have h1:¬ ((q:Int)<ts.length):=by omega
  simp[ha.A7,AR,h1];refine AJV ?_;have h2:ts.drop q=[]:=Bu (by omega);rw[h2] at hP;exact⟨y,hy.close _ _ _,hP y l hy (by simp[D7]) (by simp)⟩
 | succ j D2=>
  intro q l y hy hc hi hP;refine uI ?_;have h1:((q:Int)<ts.length):=by omega
  obtain⟨t,ht⟩:∃t,ts[q]?=some t:=⟨_,Ak (by omega)⟩;have hd:=drop_cons ht;rw[hd] at hP hc;simp only[D7,AZ] at hP hc;simp[ha.A7,AR,h1];refine AJW ?_;simp;refine BI ha (row:=Af t) (by omega) (by grind[BE]) (Ac t) (by omega) ?_;have hb:=PZ k q;have e3:=ih t (A2 ht) (u+Ea k q) (by omega) l y hy (by omega);have hrow:=BE ht;obtain⟨k',n',x,es⟩:=t;simp only[Af,CH,Cs] at e3 hrow;simp[Af];refine AD (Um ha q) ?_;rintro v rfl;simp only[CY,xI];refine⟨⟨Ae,Ae⟩,B7 (by omega) (by omega) ?_⟩;have ec:(u:Int)+(Ea k q:Int)=((u+Ea k q:Nat):Int):=by omega
  rw[ec];refine AD e3 ?_;rintro v ⟨m,hm,hmi,hml⟩;simp[Bg,uG ha,Hx,Mm,Le,FX,Ht,DJ];refine⟨BI ha (by omega) (by assumption) (by simp) (by omega) (by simp[*,Bg,Mm,Le,FX,Ht,DJ]),AJX ?_⟩;simp only[CY,xI];refine⟨⟨Ae,Ae⟩,B7 (by omega) (by omega) ?_⟩;have:=D2 (q+1) m v hm (by omega) (by omega) (by grind)
  grind
mutual
theorem free_spec:∀(t:Ty),size t<2 ^ 39->∀(u:Nat),u+size t<2 ^ 60->∀(x:AV),A5 t x->∀(l:List Int) (y:AV),Aq y (AX l)->l.length+size t<2 ^ 40 ->
  AL (env R) 126 [x,AA u,y] λr=>∃m,Aq r (AX m)/\(m=[]<->l=[]/\Co u t=true)/\m.length<=l.length+size t
 | .mk k n i ts,h,u,hu,x,hx,l,y,hy,hl=>by
  obtain⟨a,rfl,ha⟩:=hx;simp only[size] at h hu hl;have ih:=Sg ts (by omega) (u+1) (by omega)
  suffices H:∀Post:AV->Prop,(∀r m,Aq r (AX m)->(m=[]<->l=[]/\Co u (.mk k n i ts)=true)->m.length<=l.length+size (.mk k n i ts)->Post r)->ee R 0 0 0 (.agg [AA k,SS n,AA i,a]) (AA u) y ⟨[],[]⟩ (QP Post) from
   AWG (u0:=.agg [AA k,SS n,AA i,a]) (u1:=AA u) (u2:=y) (by simp[ha.close,hy.close]) (H _ λr m h1 h2 h3=>⟨m,h1,h2,h3⟩)
  intro Post GV;refine AJY ?_;simp only[Co,size] at GV;cases h1:(k==5) with
  | false=>
   rw[h1] at GV;simp[-beq_iff_eq,ha.ok,h1];refine ek ?_;exact Pb ha (by omega) (by omega) ih ts.length 0 l y hy (by grind) (by omega) (λr m a b c=>GV r m a (by grind) (by grind))
  | true=>
   rw[h1] at GV;cases h2:decide ((u:Int)<=i) with
   | true=>
    rw[h2] at GV;simp[-beq_iff_eq,-decide_eq_true_eq,ha.ok,h1,h2,eu];refine AD (Sd hy (by omega) _) ?_;rintro v ⟨m,hm,hne,hml⟩;refine ek ?_;refine Pb ha (by omega) (by omega) ih ts.length 0 m v hm (by grind) (by omega) (λr m' a b c=>GV r m' a ?_ (by grind))
    grind
   | false=>
    rw[h2] at GV;simp[-beq_iff_eq,-decide_eq_false_iff_not,ha.ok,h1,h2];refine ek ?_;exact Pb ha (by omega) (by omega) ih ts.length 0 l y hy (by grind) (by omega) (λr m a b c=>GV r m a (by grind) (by grind))
theorem Sg:∀(l:List Ty),AZ l<2 ^ 39->∀(w:Nat),w+AZ l<2 ^ 60->∀t∈l,∀v,v<=w->∀(z:List Int) (y:AV),Aq y (AX z)->z.length+size t<2 ^ 40 ->
   AL (env R) 126 [.agg ((Af t).map .pv),AA v,y] λr=>∃m,Aq r (AX m)/\(m=[]<->z=[]/\Co v t=true)/\m.length<=z.length+size t
 | [],_,_,_,_,h=>by cases h
 | e::l,ho,w,hw,a,h=>by
  simp only[AZ] at ho hw;rcases A1.1 h with h' | h'
  .rw[h']
   exact λv hv z y hy hz=>free_spec e (by omega) v (by omega) _ (A5.BZ e) z y hy hz
  .exact Sg l (by omega) w (by omega) a h'
end
theorem IM {t:Ty} (h:size t<2 ^ 38) {x:AV} (hx:A5 t x):AL (env R) 48 [x] λr=>r=BB (Co 0 t):=by
 obtain⟨k,n,i,ts⟩:=t;obtain⟨a,rfl,ha⟩:=hx;refine e48 (u0:=.agg [AA k,SS n,AA i,a]) (by simp[ha.close]) (AO6 ?_);simp[ha.ok]
 have AWH:AL (env R) 96 [.agg [AA k,SS n,AA i,a]] λr=>∃m,Aq r (AX m)/\(m=[]<->Co 0 (.mk k n i ts)=true):=by
  refine e96 (u0:=.agg [AA k,SS n,AA i,a]) (by simp[ha.close]) (AO7 ?_);simp[ha.ok];refine AD (free_spec (.mk k n i ts) (by omega) 0 (by omega) _ ⟨a,rfl,ha⟩ [] (.AB []) (.AB []) (by grind)) ?_;rintro v ⟨m,hm,hmi,_⟩;exact⟨v,hm.close _ _ _,m,hm,by grind⟩
 refine AD AWH ?_;rintro v ⟨m,hm,hmi⟩;simp[QP,QI,hm.A7,BV];cases hc:Co 0 (.mk k n i ts) with
 | true=>
  grind
 | false=>
  simp[*]
end
mutual
def plain:Ty->Bool
 | .mk k n i ts=>k==5||Co 0 (.mk k n i ts)||(k==2&&Fk ts)
def Fk:List Ty->Bool
 | []=>true
 | t::l=>plain t&&Fk l
end
section
variable {R:Nat->Option (List PV)}
theorem uJ {f:FuncId} {g:Ty->Bool} {ts:List Ty} {y:AV} (hy:Aq y (AW ts)) (hl:AZ ts<2 ^ 60) (hf:∀t∈ts,AL (env R) f [.agg ((Af t).map .pv)] λr=>r=BB (g t)) {Post:AV->Prop} :
  ∀(j q:Nat),q+j=ts.length->(∀i:Int,decide (0<=i)=(ts.drop q).any g->Post (AA i))->Pc R 0 0 0 y (.func (.func f) [] []) (AA ts.length) (AA q) ⟨[],[]⟩ (QP Post):=by
 have UT:=BP ts;intro j
 induction j with
 | zero=>
  intro q hi hP;refine Pd ?_;have h1:¬ ((q:Int)<ts.length):=by omega
  simp[h1];refine e9 ?_
  simp_all[QP]
 | succ j D2=>
  intro q hi hP;refine Pd ?_;have h1:((q:Int)<ts.length):=by omega
  obtain⟨t,ht⟩:∃t,ts[q]?=some t:=⟨_,Ak (by omega)⟩;have hd:=drop_cons ht;rw[hd] at hP;simp[h1];refine fB ?_;refine BI hy (row:=Af t) (by omega) (by simp[*,BE]) (Ac t) (by omega) ?_;have e3:=hf t (A2 ht);cases hg:g t with
  | true=>
   rw[hg] at e3;have:=hP q (by grind);obtain⟨k',n',x,es⟩:=t;simp only[Af,CH,Cs] at e3;simp[Af];refine AD e3 ?_;simp[*,QP]
  | false=>
   rw[hg] at e3;simp only[N2,hg,Gb] at hP;obtain⟨k',n',x,es⟩:=t;simp only[Af,CH,Cs] at e3;simp[Af];refine AD e3 ?_;rintro v rfl;simp;refine fC ?_;simp only[CY,xI];refine⟨⟨Ae,Ae⟩,B7 (by omega) (by omega) ?_⟩;have:=D2 (q+1) (by omega) hP;simpa using this
theorem M1 {f:FuncId} {g:Ty->Bool} {ts:List Ty} {y:AV} (hy:Aq y (AW ts)) (hl:AZ ts<2 ^ 60) (hf:∀t∈ts,AL (env R) f [.agg ((Af t).map .pv)] λr=>r=BB (g t)) :
  AL (env R) 94 [y,.func (.func f) [] []] λr=>r=BB (ts.any g):=by
 have hi:AL (env R) 125 [y,.func (.func f) [] []] λr=>∃i:Int,r=AA i/\decide (0<=i)=ts.any g:=by
  refine AWI (by simp[Bi,hy.F1,F1]) (fD ?_);simp[hy.A7,AR];exact uJ hy hl hf ts.length 0 (by omega) (λi h=>⟨i,rfl,by grind⟩)
 refine e94 (by simp[Bi,hy.F1,F1]) (uK ?_);refine AD hi ?_;rintro v ⟨i,rfl,h⟩;simp only[CY,xI];refine⟨⟨Ae,Ae⟩,_,Fw,?_⟩;rw[<-h]
mutual
theorem Xx:∀(t:Ty),size t<2 ^ 38->∀(x:AV),A5 t x->AL (env R) 161 [x] λr=>r=BB (plain t)
 | .mk k n i ts,h,x,hx=>by
  obtain⟨a,rfl,ha⟩:=hx;have hs:=h;simp only[size] at h;have ih:=Lt k n i ts (by omega) a ha;have hc:AL (env R) 141 [.agg [AA k,SS n,AA i,a],AA 0] λr=>r=BB (Co 0 (.mk k n i ts)):=Ls (.mk k n i ts) (by omega) 0 (by omega) _ ⟨a,rfl,ha⟩
  refine AWJ (u0:=.agg [AA k,SS n,AA i,a]) (by simp[ha.close]) (AJZ ?_);cases h1:(k==5) with
  | true=>simp[-beq_iff_eq,QP,QI,ha.ok,h1,plain]
  | false=>
   simp[-beq_iff_eq,ha.ok,h1];refine AD hc ?_;rintro v rfl;cases h2:Co 0 (.mk k n i ts) with
   | true=>simp[*,QP,plain]
   | false=>
    cases h3:(k==2) with
    | false=>simp[*,QP,plain]
    | true=>
     have e2:k=2:=by grind
     subst e2;simp;refine AD ih ?_;simp[*,QP,plain]
theorem Lt (k:Int) (n:List UInt8) (i:Int):∀(ts:List Ty),AZ ts<2 ^ 38->∀(a:AV),Aq a (AW ts)->AL (env R) 140 [.agg [AA k,SS n,AA i,a]] λr=>r=BB (Fk ts)
 | ts,h,a,ha=>by
  have ih:=Qh ts h;refine AWK (u0:=.agg [AA k,SS n,AA i,a]) (by simp[ha.close]) (AJa ?_);simp[ha.ok]
  have hf:∀t∈ts,AL (env R) 160 [.agg ((Af t).map .pv)] λr=>r=BB (!plain t):=by
   intro t ht;have e:=ih t ht;refine AWL (by cases t; rfl) (AJb ?_);obtain⟨k',n',x,es⟩:=t;simp only[Af,CH,Cs] at e;simp[Af];refine AD e ?_;simp[*,QP]
  refine AD (M1 ha (by omega) hf) ?_;rintro v rfl
  have:(!ts.any λt=>!plain t)=Fk ts:=by
   clear ih hf ha h
   induction ts with
   | nil=>rfl
   | cons t l ih=>grind[Fk]
  simp[*,QP]
theorem Qh:∀(l:List Ty),AZ l<2 ^ 38->∀t∈l,AL (env R) 161 [.agg ((Af t).map .pv)] λr=>r=BB (plain t)
 | [],_,_,h=>by cases h
 | e::l,ho,a,h=>by
  simp only[AZ] at ho;rcases A1.1 h with h' | h'
  .rw[h']
   exact Xx e (by omega) _ (A5.BZ e)
  .exact Qh l (by omega) a h'
end
theorem Zq {k i:Int} {n:List UInt8} {ts:List Ty} {a:AV} (ha:Aq a (AW ts)) (hl:AZ ts<2 ^ 38) (ih:∀t∈ts,AL (env R) 110 [.agg ((Af t).map .pv)] λr=>r=BB (plain t)) {Post:AV->Prop} :
  ∀(j q:Nat),q+j=ts.length->Post (BB (k==2&&Fk (ts.drop q)))->Xy R 0 0 0 (.ptr 0 0) (AA q) ⟨[[AA k,SS n,AA i,a]],[]⟩ (QP Post):=by
 have UT:=BP ts;intro j
 induction j with
 | zero=>
  intro q hi hP;refine uL ?_;have h1:¬ ((q:Int)<ts.length):=by omega
  simp[ha.A7,AR,h1];refine AJc ?_
  simp_all[QP,Fk]
 | succ j D2=>
  intro q hi hP;refine uL ?_;have h1:((q:Int)<ts.length):=by omega
  obtain⟨t,ht⟩:∃t,ts[q]?=some t:=⟨_,Ak (by omega)⟩;have hd:=drop_cons ht;rw[hd] at hP;simp only[Fk] at hP;simp[ha.A7,AR,h1];refine AJd ?_;simp;refine BI ha (row:=Af t) (by omega) (by simp[*,BE]) (Ac t) (by omega) ?_;have e3:=ih t (A2 ht);have hr:=Ac t;cases hg:plain t with
  | true=>
   rw[hg] at e3 hP;obtain⟨k',n',x,es⟩:=t;simp only[Af,CH,Cs] at e3;simp[Af];refine AD e3 ?_;rintro v rfl;simp;refine AJe ?_;simp only[CY,xI];refine⟨⟨Ae,Ae⟩,B7 (by omega) (by omega) ?_⟩;have:=D2 (q+1) (by omega) (by simpa using hP);simpa using this
  | false=>
   rw[hg] at e3 hP;obtain⟨k',n',x,es⟩:=t;simp only[Af,CH,Cs] at e3;simp[Af];refine AD e3 ?_
   simp_all[QP]
mutual
theorem Zr:∀(t:Ty),size t<2 ^ 38->∀(x:AV),A5 t x->AL (env R) 110 [x] λr=>r=BB (plain t)
 | .mk k n i ts,h,x,hx=>by
  obtain⟨a,rfl,ha⟩:=hx;have hs:=h;simp only[size] at h;have ih:=K7 ts (by omega);have hc:AL (env R) 48 [.agg [AA k,SS n,AA i,a]] λr=>r=BB (Co 0 (.mk k n i ts)):=IM hs ⟨a,rfl,ha⟩
  suffices H:∀Post:AV->Prop,Post (BB (plain (.mk k n i ts)))->fE R 0 0 0 (.agg [AA k,SS n,AA i,a]) ⟨[],[]⟩ (QP Post) from
   AWM (u0:=.agg [AA k,SS n,AA i,a]) (by simp[ha.close]) (H _ rfl)
  intro Post GV;refine AJf ?_;simp only[plain] at GV;cases h1:(k==5) with
  | true=>
   rw[h1] at GV;simpa[-beq_iff_eq,QP,QI,ha.ok,h1] using GV
  | false=>
   rw[h1] at GV;simp[-beq_iff_eq,ha.ok,h1];refine AD hc ?_;rintro v rfl;cases h2:Co 0 (.mk k n i ts) with
   | true=>
    simp_all[QP]
   | false=>
    rw[h2] at GV;simp[-beq_iff_eq];refine AJg ?_;exact Zq ha (by omega) ih ts.length 0 (by omega) (by grind)
theorem K7:∀(l:List Ty),AZ l<2 ^ 38->∀t∈l,AL (env R) 110 [.agg ((Af t).map .pv)] λr=>r=BB (plain t)
 | [],_,_,h=>by cases h
 | e::l,ho,a,h=>by
  simp only[AZ] at ho;rcases A1.1 h with h' | h'
  .rw[h']
   exact Zr e (by omega) _ (A5.BZ e)
  .exact K7 l (by omega) a h'
end
end
def isLet (n:Int):Bool:=(decide (97<=n)&&decide (n<=122))||(decide (65<=n)&&decide (n<=90))
def Sh (n:Int):Bool:=decide (48<=n)&&decide (n<=57)
def Pe (n:Int):Bool:=isLet n||Sh n||n==95||n==45
abbrev BY (n:Int):AV:=.pv (.sc (.int .u8 n))
def Mo (l:List UInt8):Bool:=l != []&&decide (l.length<=24)&&(match l with|[]=>false|c::_=>isLet c.toNat)&&l.all λc=>!((c.toNat:Int)==45)&&Pe c.toNat
def Lu:List (List UInt8):=[[65,110,121],[78,101,118,101,114],[116,117,112,108,101],[117,110,105,111,110],[101,120,105,115,116,115]]
section
variable {R:Nat->Option (List PV)}
theorem Qi (n:Int):AL (env R) 155 [BY n] λr=>r=BB (isLet n):=by
 refine AWN rfl (AJh ?_)
 by_cases h1:97<=n <;> by_cases h2:n<=122 <;> by_cases h3:65<=n <;> by_cases h4:n<=90 <;> simp[QP,QI,isLet,h1,h2,h3,h4]
theorem OY (n:Int):AL (env R) 135 [BY n] λr=>r=BB (isLet n):=by
 refine AWO rfl (AJi ?_)
 by_cases h1:97<=n <;> by_cases h2:n<=122 <;> by_cases h3:65<=n <;> by_cases h4:n<=90 <;> simp[QP,QI,isLet,h1,h2,h3,h4]
theorem fF (n:Int):AL (env R) 173 [BY n] λr=>r=BB (Sh n):=by
 refine AWP rfl (AJj ?_)
 by_cases h1:48<=n <;> by_cases h2:n<=57 <;> simp[QP,QI,Sh,h1,h2]
theorem Zs (n:Int):AL (env R) 154 [BY n] λr=>r=BB (Sh n):=by
 refine AWQ rfl (AJk ?_)
 by_cases h1:48<=n <;> by_cases h2:n<=57 <;> simp[QP,QI,Sh,h1,h2]
theorem Un (n:Int):AL (env R) 158 [BY n] λr=>r=BB (Pe n):=by
 refine AWR rfl (AJl ?_);refine AD (Qi n) ?_;rintro v rfl;cases h1:isLet n with
 | true=>simp[QP,QI,Pe,h1]
 | false=>
  simp;refine AD (fF n) ?_;rintro v rfl;cases h2:Sh n with
  | true=>simp[QP,QI,Pe,h2]
  | false=>cases h3:(n==95) <;> cases h4:(n==45) <;> simp[-beq_iff_eq,-beq_eq_false_iff_ne,QP,QI,Pe,h1,h2,h3,h4]
theorem Si (n:Int):AL (env R) 136 [BY n] λr=>r=BB (Pe n):=by
 refine AWS rfl (AJm ?_);refine AD (OY n) ?_;rintro v rfl;cases h1:isLet n with
 | true=>simp[QP,QI,Pe,h1]
 | false=>
  simp;refine AD (Zs n) ?_;rintro v rfl;cases h2:Sh n with
  | true=>simp[QP,QI,Pe,h2]
  | false=>cases h3:(n==95) <;> cases h4:(n==45) <;> simp[-beq_iff_eq,-beq_eq_false_iff_ne,QP,QI,Pe,h1,h2,h3,h4]
theorem Sj (n:Int):AL (env R) 157 [BY n] λr=>r=BB (!(n==45)&&Pe n):=by
 refine AWT rfl (AJn ?_);cases h:(n==45) with
 | true=>simp[-beq_iff_eq,-beq_eq_false_iff_ne,QP,QI,h,bne]
 | false=>
  simp[-beq_iff_eq,-beq_eq_false_iff_ne,h,bne];refine AD (Un n) ?_;rintro v rfl;simp[-beq_iff_eq,-beq_eq_false_iff_ne,QP,QI]
theorem fG {f:FuncId} {g:Int->Bool} {l:List UInt8} (hl:l.length<2 ^ 60) (hf:∀n:Int,AL (env R) f [BY n] λr=>r=BB (g n)) {Post:AV->Prop} :
  ∀(j q:Nat),q+j=l.length->Post (BB ((l.drop q).all λc=>g c.toNat))->Xz R 0 0 0 (SS l) (.func (.func f) [] []) (AA q) ⟨[],[]⟩ (QP Post):=by
 intro j
 induction j with
 | zero=>
  intro q hi hP;refine uM ?_;have h1:¬ ((q:Int)<l.length):=by omega
  simp[h1];refine AJo ?_;have h2:l.drop q=[]:=Bu (by omega);rw[h2] at hP;simpa[QP,QI] using hP
 | succ j D2=>
  intro q hi hP;refine uM ?_;have h1:((q:Int)<l.length):=by omega
  obtain⟨c,hc⟩:∃c,l[q]?=some c:=⟨_,Ak (by omega)⟩;rw[drop_cons hc] at hP;simp[h1];refine AJp ?_;refine⟨by omega,c,by simpa using hc,?_⟩;refine AD (hf c.toNat) ?_;rintro v rfl;cases hg:g c.toNat with
  | true=>
   rw[G5,hg] at hP;simp;refine AJq ?_;simp only[CY,xI];refine⟨⟨Ae,Ae⟩,B7 (by omega) (by omega) ?_⟩;have:=D2 (q+1) (by omega) (by simpa using hP);simpa using this
  | false=>
   rw[G5,hg] at hP;simpa[QP,QI] using hP
theorem X0 {l:List UInt8} (hl:l.length<2 ^ 60):AL (env R) 138 [SS l] λr=>r=BB (Mo l):=by
 have ev:AL (env R) 156 [SS l,.func (.func 157) [] []] λr=>r=BB (l.all λc=>!((c.toNat:Int)==45)&&Pe c.toNat):=by
  refine AWU (u0:=SS l) (u1:=.func (.func 157) [] []) (by simp) (AJr ?_);exact fG hl Sj l.length 0 (by omega) (by simp)
 refine AWV (u0:=SS l) (by simp) (AJs ?_);cases l with
 | nil=>simp[QP,QI,Mo]
 | cons c l=>
  by_cases h1:(c::l).length<=24
  .have ZD:(((c::l).length:Nat):Int)<=24:=by omega
   have fH:((l.length:Int)+1<=24):=by simpa using ZD
   simp[fH,Lv];refine AD (Qi c.toNat) ?_;rintro v rfl;cases h2:isLet c.toNat with
   | false=>simp[QP,QI,Mo,h2]
   | true=>
    simp;refine AD ev ?_;rintro v rfl;have:l.length+1<=24:=by simpa using h1
    simp[QP,QI,Mo,h2,this]
  .have fH:¬ ((l.length:Int)+1<=24):=by simp at h1; omega
   have:¬ (l.length+1<=24):=by simpa using h1
   simp[QP,QI,fH,Mo,this]
theorem Zt {l:List UInt8} (hl:l.length<2 ^ 60) {Post:AV->Prop} :
  ∀(j q:Nat),q+j=l.length->Post (BB ((l.drop q).all λc=>!((c.toNat:Int)==45)&&Pe c.toNat))->X1 R 0 0 0 (SS l) (AA q) ⟨[],[]⟩ (QP Post):=by
 intro j
 induction j with
 | zero=>
  intro q hi hP;refine uN ?_;have h1:¬ ((q:Int)<l.length):=by omega
  simp[h1];refine AJt ?_;have h2:l.drop q=[]:=Bu (by omega);rw[h2] at hP;simpa[QP,QI] using hP
 | succ j D2=>
  intro q hi hP;refine uN ?_;have h1:((q:Int)<l.length):=by omega
  obtain⟨c,hc⟩:∃c,l[q]?=some c:=⟨_,Ak (by omega)⟩;rw[drop_cons hc] at hP;simp[h1];refine AJu ?_;refine⟨by omega,c,by simpa using hc,?_⟩;refine AD (Si c.toNat) ?_;rintro v rfl;cases hg:Pe c.toNat with
  | false=>
   rw[G5,hg,Bool.and_false,Ga] at hP;simpa[QP,QI] using hP
  | true=>
   rw[G5,hg,Ie] at hP;simp;refine⟨by omega,c,by simpa using hc,?_⟩
   by_cases h45:((c.toNat:Int)=45)
   .have AJv:((c.toNat:Int)==45)=true:=by simpa using h45
    rw[AJv,MM,Ga] at hP;simp[QP,QI];exact⟨λ_=>hP,λh=>absurd h45 h⟩
   .have AJv:((c.toNat:Int)==45)=false:=by simpa using h45
    rw[AJv,W6,E6] at hP;simp;refine⟨λh=>absurd h h45,λ_=>AJw ?_⟩;simp only[CY,xI];refine⟨⟨Ae,Ae⟩,B7 (by omega) (by omega) ?_⟩;have:=D2 (q+1) (by omega) (by simpa using hP);simpa using this
theorem Zu {l:List UInt8} (hl:l.length<2 ^ 60):AL (env R) 108 [SS l] λr=>r=BB (Mo l):=by
 refine AWW (u0:=SS l) (by simp) (AJx ?_);cases l with
 | nil=>simp[QP,QI,Mo]
 | cons c l=>
  have h0:¬ ((l.length:Int)+1<1):=by omega
  by_cases h1:l.length+1<=24
  .have fH:¬ (24<(l.length:Int)+1):=by omega
   simp[h0,fH,Lv];refine AD (OY c.toNat) ?_;rintro v rfl;cases h2:isLet c.toNat with
   | false=>simp[QP,QI,Mo,h2]
   | true=>
    simp;refine AJy ?_;refine Zt hl (c::l).length 0 (by omega) ?_;simp[Mo,h2,h1]
  .have fH:(24<(l.length:Int)+1):=by omega
   simp[QP,QI,h0,fH,Mo,h1]
theorem X2 {l:List UInt8}:AL (env R) 109 [SS l] λr=>r=BB (Lu.contains l):=by
 refine AWX (u0:=SS l) (by simp) (AJz ?_)
 by_cases h1:l=[65,110,121]
 .subst h1; simp[QP,QI,Lu]
 by_cases h2:l=[78,101,118,101,114]
 .subst h2; simp[QP,QI,Lu]
 by_cases h3:l=[116,117,112,108,101]
 .subst h3; simp[QP,QI,Lu]
 by_cases h4:l=[117,110,105,111,110]
 .subst h4; simp[QP,QI,Lu]
 by_cases h5:l=[101,120,105,115,116,115]
 .subst h5; simp[QP,QI,Lu]
 have b1:(l==[65,110,121])=false:=by simpa using h1
 have b2:(l==[78,101,118,101,114])=false:=by simpa using h2
 have b3:(l==[116,117,112,108,101])=false:=by simpa using h3
 have b4:(l==[117,110,105,111,110])=false:=by simpa using h4
 have b5:(l==[101,120,105,115,116,115])=false:=by simpa using h5
 have b:Lu.contains l=false:=by simp[Lu,h1,h2,h3,h4,h5]
 simp[-beq_iff_eq,-beq_eq_false_iff_ne,-List.contains_eq_mem,QP,QI,b,b1,b2,b3,b4,b5]
def Ei (l:List (List UInt8)):List (List PV):=l.map λs=>[.sc (.string ⟨s.toArray⟩)]
theorem Zv (l:List (List UInt8)):(Ei l).length=l.length:=by simp[Ei]
theorem Zw {l:List (List UInt8)} {i:Nat} {n:List UInt8} (h:l[i]?=some n):(Ei l)[i]?=some [.sc (.string ⟨n.toArray⟩)]:=by simp[Ei,h]
theorem fI {l:List (List UInt8)} {w:List UInt8} {y:AV} (hy:Aq y (Ei l)) (hl:l.length<2 ^ 60) {Post:AV->Prop} :
  ∀(j q:Nat),q+j=l.length->(∀i:Int,decide (0<=i)=(l.drop q).contains w->Post (AA i))->X3 R 0 0 0 y (SS w) (AA l.length) (AA q) ⟨[],[]⟩ (QP Post):=by
 intro j
 induction j with
 | zero=>
  intro q hi hP;refine uO ?_;have h1:¬ ((q:Int)<l.length):=by omega
  simp[h1];refine AJ0 ?_;have h2:l.drop q=[]:=Bu (by omega);rw[h2] at hP;have:=hP (-1) (by simp);simpa[QP,QI] using this
 | succ j D2=>
  intro q hi hP;refine uO ?_;have h1:((q:Int)<l.length):=by omega
  obtain⟨t,ht⟩:∃t,l[q]?=some t:=⟨_,Ak (by omega)⟩;rw[drop_cons ht] at hP;simp[h1];refine AJ1 ?_;refine BI hy (row:=[.sc (.string ⟨t.toArray⟩)]) (by omega) (by simpa using Zw ht) rfl (by omega) ?_
  by_cases hw:w=t
  .subst hw
   have:=hP q (by simp);simpa[QP,QI] using this
  .simp[hw]
   refine AJ2 ?_;simp only[CY,xI];refine⟨⟨Ae,Ae⟩,B7 (by omega) (by omega) ?_⟩;have:=D2 (q+1) (by omega) (λi h=>hP i (by rw[h]; simp[hw]));simpa using this
theorem Sk {l:List (List UInt8)} {w:List UInt8} {y:AV} (hy:Aq y (Ei l)) (hl:l.length<2 ^ 60):AL (env R) 139 [y,SS w] λr=>r=BB (l.contains w):=by
 have hi:AL (env R) 159 [y,SS w] λr=>∃i:Int,r=AA i/\decide (0<=i)=l.contains w:=by
  refine AWY (u0:=y) (u1:=SS w) (by simp[hy.close]) (AJ3 ?_);simp[hy.A7,Zv];exact fI hy hl l.length 0 (by omega) (λi h=>⟨i,rfl,by simpa using h⟩)
 refine AWZ (u0:=y) (u1:=SS w) (by simp[hy.close]) (AJ4 ?_);refine AD hi ?_;rintro v ⟨i,rfl,h⟩;simp only[CY,xI];refine⟨⟨Ae,Ae⟩,_,Fw,?_⟩;rw[<-h]
end
def Sl:List Ty->Bool
 | []=>false
 | t::_=>Co 0 t
def shape (k:Int) (n:List UInt8) (i:Int) (ts:List Ty):Bool:=
 bif k==0||k==1 then ts.length==0
 else bif k==2 then Mo n&&!Lu.contains n&&decide (ts.length<=6)&&Fk ts
 else bif k==3 then decide (ts.length<=6)
 else bif k==4 then decide (2<=ts.length)
 else bif k==5 then ts.length==0&&decide (0<=i)&&decide (i<=200)
 else bif k==6 then ts.length==2&&Sl ts
 else false
def root (k:Int) (n:List UInt8) (i:Int) (ts:List Ty):Bool:=(k==2||n==[])&&(k==5||i==0)&&shape k n i ts
mutual
def valid:Ty->Bool
 | .mk k n i ts=>root k n i ts&&BS ts
def BS:List Ty->Bool
 | []=>true
 | t::l=>valid t&&BS l
end
def Xs (n:List UInt8):Prop:=n.length<2 ^ 60
mutual
def X4:Ty->Prop
 | .mk _ n _ ts=>Xs n/\Q2 ts
def Q2:List Ty->Prop
 | []=>True
 | t::l=>X4 t/\Q2 l
end
section
variable {R:Nat->Option (List PV)}
theorem AJ5:(env R).G 2=some (FD Lu):=rfl
theorem oB:FD Lu=[.list (Ei Lu)]:=rfl
section
variable {k i:Int} {n:List UInt8} {ts:List Ty} {a:AV} {Post:AV->Prop}
theorem sh0 (ha:Aq a (AW ts)) (hP:Post (BB (ts.length==0))):J8 R 0 0 0 (.ptr 0 0) (AA k) (BB true) ⟨[[AA k,SS n,AA i,a]],[]⟩ (QP Post):=by
 refine NN ⟨λ_=>?_,by simp⟩;have e:((ts.length:Int)==0)=(ts.length==0):=by grind
 simpa[-beq_iff_eq,-beq_eq_false_iff_ne,QP,QI,ha.A7,AR,e] using hP
theorem sh2 (ha:Aq a (AW ts)) (hs:AZ ts<2 ^ 38) (hn:Xs n) (hP:Post (BB (Mo n&&!Lu.contains n&&decide (ts.length<=6)&&Fk ts))) :
  J8 R 0 0 0 (.ptr 0 0) (AA 2) (BB false) ⟨[[AA 2,SS n,AA i,a]],[]⟩ (QP Post):=by
 have hlen:=BP ts;refine NN ⟨by simp,λ_=>⟨⟨rfl,rfl⟩,⟨λ_=>?_,by simp⟩⟩⟩;simp only[CI,Bs,LP,LQ,AO,CU,FJ,wO,setCells,CJ,D6,DV,Cv,A0,alive,CY,F9,I4,nx,A6,DC,BO,Gs,Dt,DT,si,qd,okB,sj,sk,sq,sr,su,jh,sw,sx,sy,s7,s8,s9,tA,tB,tC,tD,tE,okF,tF,tG,tH,tI,tJ,Xs,tK,SR,SU,SV,SW,tL,tM,tN,tP,tQ,tR,tS,tT,tU,tV,Fw,tW,qe,tX,tY,tZ,td,th,tj,tq,uA,uB,uC,Cm,xI,xL,xM,xF,xG,g0,g1,lf];simp only[Ig,Hp,CO,CQ,GZ];refine⟨Ae,AD (X0 hn) ?_⟩;rintro v rfl;cases c1:Mo n with
 | false=>
  rw[c1] at hP;simpa[QP,QI] using hP
 | true=>
  simp[AJ5,oB];refine AD (Sk (.list _) (by simp[Lu])) ?_;rintro v rfl;cases c2:Lu.contains n with
  | true=>
   simp_all[QP]
  | false=>
   rw[c1,c2] at hP
   by_cases c3:ts.length<=6
   .have c3':((ts.length:Int)<=6):=by omega
    rw[Ap c3] at hP;simp[ha.A7,AR,c3'];refine AD (Lt 2 n i ts hs a ha) ?_
    simp_all[QP]
   .have c3':¬ ((ts.length:Int)<=6):=by omega
    rw[Aw c3] at hP;simpa[QP,QI,ha.A7,AR,c3'] using hP
theorem sh3 (ha:Aq a (AW ts)) (hP:Post (BB (decide (ts.length<=6)))):J8 R 0 0 0 (.ptr 0 0) (AA 3) (BB false) ⟨[[AA 3,SS n,AA i,a]],[]⟩ (QP Post):=by
 refine NN ⟨by simp,λ_=>⟨⟨rfl,rfl⟩,⟨by simp,λ_=>⟨⟨rfl,rfl⟩,⟨λ_=>?_,by simp⟩⟩⟩⟩⟩;have e:decide ((ts.length:Int)<=6)=decide (ts.length<=6):=by grind
 simpa[-decide_eq_true_eq,QP,QI,ha.A7,AR,e] using hP
theorem sh4 (ha:Aq a (AW ts)) (hP:Post (BB (decide (2<=ts.length)))):J8 R 0 0 0 (.ptr 0 0) (AA 4) (BB false) ⟨[[AA 4,SS n,AA i,a]],[]⟩ (QP Post):=by
 refine NN ⟨by simp,λ_=>⟨⟨rfl,rfl⟩,⟨by simp,λ_=>⟨⟨rfl,rfl⟩,⟨by simp,λ_=>⟨⟨rfl,rfl⟩,⟨λ_=>?_,by simp⟩⟩⟩⟩⟩⟩⟩;have e:decide (2<=(ts.length:Int))=decide (2<=ts.length):=by grind
 simpa[-decide_eq_true_eq,QP,QI,ha.A7,AR,e] using hP
theorem sh5 (ha:Aq a (AW ts)) (hP:Post (BB (ts.length==0&&decide (0<=i)&&decide (i<=200)))):J8 R 0 0 0 (.ptr 0 0) (AA 5) (BB false) ⟨[[AA 5,SS n,AA i,a]],[]⟩ (QP Post):=by
 refine NN ⟨by simp,λ_=>⟨⟨rfl,rfl⟩,⟨by simp,λ_=>⟨⟨rfl,rfl⟩,⟨by simp,λ_=>⟨⟨rfl,rfl⟩,⟨by simp,λ_=>⟨⟨rfl,rfl⟩,⟨λ_=>?_,by simp⟩⟩⟩⟩⟩⟩⟩⟩⟩;cases ts with
 | cons t l=>
  have c':¬ ((l.length:Int)+1=0):=by omega
  have b':((l.length:Int)+1==0)=false:=by rfl
  simpa[-beq_iff_eq,-beq_eq_false_iff_ne,QP,QI,ha.A7,AR,b'] using hP
 | nil=>
  by_cases c1:0<=i
  .by_cases c2:i<=200
   .simpa[QP,QI,ha.A7,AR,c1,c2] using hP
   .simpa[QP,QI,ha.A7,AR,c1,c2] using hP
  .simpa[QP,QI,ha.A7,AR,c1] using hP
theorem sh6 (ha:Aq a (AW ts)) (hs:AZ ts<2 ^ 38) (hP:Post (BB (ts.length==2&&Sl ts))):J8 R 0 0 0 (.ptr 0 0) (AA 6) (BB false) ⟨[[AA 6,SS n,AA i,a]],[]⟩ (QP Post):=by
 refine NN ⟨by simp,λ_=>⟨⟨rfl,rfl⟩,⟨by simp,λ_=>⟨⟨rfl,rfl⟩,⟨by simp,λ_=>⟨⟨rfl,rfl⟩,⟨by simp,λ_=>⟨⟨rfl,rfl⟩,⟨by simp,λ_=>⟨⟨rfl,rfl⟩,⟨λ_=>?_,by simp⟩⟩⟩⟩⟩⟩⟩⟩⟩⟩⟩
 by_cases c:ts.length=2
 .have c':((ts.length:Int)=2):=by omega
  obtain⟨t,l,rfl⟩:∃t l,ts=t::l:=by
   cases ts with
   | nil=>grind
   | cons t l=>simp
  simp only[AZ] at hs;have e3:AL (env R) 141 [.agg ((Af t).map .pv),AA 0] λr=>r=BB (Co 0 t):=Ls t (by omega) 0 (by omega) _ (A5.BZ t)
  have hP':Post (BB (Co 0 t)):=by grind[Sl]
  have c'':((l.length:Int)+1=2):=by grind
  simp[ha.A7,AR,c''];refine BI ha (row:=Af t) (by omega) (by rfl) (Ac t) (by omega) ?_;obtain⟨k',n',x,es⟩:=t;simp only[Af,CH,Cs] at e3;simp[Af];refine AD e3 ?_;simp[*,QP]
 .have c':¬ ((ts.length:Int)=2):=by omega
  have b:(ts.length==2)=false:=by grind
  rw[b] at hP;have b':((ts.length:Int)==2)=false:=by grind
  simpa[-beq_iff_eq,-beq_eq_false_iff_ne,QP,QI,ha.A7,AR,b'] using hP
theorem sh7 (h2:¬ k=2) (h3:¬ k=3) (h4:¬ k=4) (h5:¬ k=5) (h6:¬ k=6) (hP:Post (BB false)):J8 R 0 0 0 (.ptr 0 0) (AA k) (BB false) ⟨[[AA k,SS n,AA i,a]],[]⟩ (QP Post):=by
 refine NN ⟨by simp,λ_=>⟨⟨rfl,rfl⟩,⟨by grind,λ_=>⟨⟨rfl,rfl⟩,⟨by grind,λ_=>⟨⟨rfl,rfl⟩,⟨by grind,λ_=>⟨⟨rfl,rfl⟩,⟨by grind,λ_=>⟨⟨rfl,rfl⟩,⟨by grind,λ_=>AJ6 ?_⟩⟩⟩⟩⟩⟩⟩⟩⟩⟩⟩;exact⟨_,Fw,hP⟩
theorem K8 (ha:Aq a (AW ts)) (hs:AZ ts<2 ^ 38) (hn:Xs n) (hP:Post (BB (shape k n i ts))):fJ R 0 0 0 (.ptr 0 0) ⟨[[AA k,SS n,AA i,a]],[]⟩ (QP Post):=by
 refine AJ7 ?_
 by_cases h0:k=0
 .subst h0
  simp
  grind[sh0,shape]
 by_cases h1:k=1
 .subst h1
  simp
  grind[sh0,shape]
 have b0:(k==0)=false:=by grind
 have b1:(k==1)=false:=by grind
 simp[h0]
 grind[sh2,shape,sh3,sh4,sh5,sh6,sh7]
end
theorem Sm {k i:Int} {n:List UInt8} {ts:List Ty} {a:AV} (ha:Aq a (AW ts)) (hs:AZ ts<2 ^ 38) (hn:Xs n):AL (env R) 116 [.agg [AA k,SS n,AA i,a]] λr=>r=BB (root k n i ts):=by
 suffices H:∀Post:AV->Prop,Post (BB (root k n i ts))->fK R 0 0 0 (.agg [AA k,SS n,AA i,a]) ⟨[],[]⟩ (QP Post) from
  AWa (u0:=.agg [AA k,SS n,AA i,a]) (by simp[ha.close]) (H _ rfl)
 intro Post hP;refine AJ8 ?_;unfold root at hP;cases b2:(k==2) with
 | true=>
  have e2:k=2:=by grind
  subst e2
  by_cases hi:i=0
  .subst hi
   simp[ha.ok]
   grind[K8]
  .have bi:(i==0)=false:=by grind
   rw[bi] at hP;simpa[QP,QI,ha.ok,hi,bne,bi] using hP
 | false=>
  have e2:¬ k=2:=by grind
  rw[b2] at hP
  by_cases hn0:n=[]
  .subst hn0
   cases b5:(k==5) with
   | true=>
    have e5:k=5:=by grind
    subst e5;simp[ha.ok]
    grind[K8]
   | false=>
    have e5:¬ k=5:=by grind
    rw[b5] at hP
    by_cases hi:i=0
    .subst hi
     simp[ha.ok,e2,e5,bne,b2,b5]
     grind[K8]
    .have bi:(i==0)=false:=by grind
     rw[bi] at hP;simpa[QP,QI,ha.ok,e2,e5,hi,bne,b2,b5,bi] using hP
  .have bn:(n==[])=false:=by grind
   rw[bn] at hP;simpa[QP,QI,ha.ok,e2,hn0,bne,b2,bn] using hP
end
def verdict (t:Ty):Int:=bif decide (200<size t)||decide (12<depth t) then 4 else bif valid t then 0 else 2
section
variable {R:Nat->Option (List PV)}
mutual
theorem LR:∀(t:Ty),size t<2 ^ 38->X4 t->∀(x:AV),A5 t x->AL (env R) 86 [x] λr=>r=BB (valid t)
 | .mk k n i ts,h,ho,x,hx=>by
  obtain⟨a,rfl,ha⟩:=hx;simp only[size] at h;simp only[X4] at ho;have ih:=KU ts (by omega) ho.2;refine e86 (u0:=.agg [AA k,SS n,AA i,a]) (by simp[ha.close]) (AO9 ?_);simp[ha.ok];refine AD (Sm ha (by omega) ho.1) ?_;rintro v rfl;cases hr:root k n i ts with
  | false=>simp[*,QP,valid]
  | true=>
   have hf:∀t∈ts,AL (env R) 117 [.agg ((Af t).map .pv)] λr=>r=BB (!valid t):=by
    intro t ht;have e:=ih t ht;refine AWb (by cases t; rfl) (AJ9 ?_);obtain⟨k',n',x,es⟩:=t;simp only[Af,CH,Cs] at e;simp[Af];refine AD e ?_;simp[*,QP]
   simp;refine AD (M1 ha (by omega) hf) ?_;rintro v rfl
   have:(!ts.any λt=>!valid t)=BS ts:=by
    clear ih hf ha h hr ho
    induction ts with
    | nil=>rfl
    | cons t l ih=>grind[BS]
   simp[*,QP,valid]
theorem KU:∀(l:List Ty),AZ l<2 ^ 38->Q2 l->∀t∈l,AL (env R) 86 [.agg ((Af t).map .pv)] λr=>r=BB (valid t)
 | [],_,_,_,h=>by cases h
 | e::l,ho,hk,a,h=>by
  simp only[AZ] at ho;simp only[Q2] at hk;rcases A1.1 h with h' | h'
  .rw[h']
   exact LR e (by omega) hk.1 _ (A5.BZ e)
  .exact KU l (by omega) hk.2 a h'
end
section
variable {k i:Int} {n:List UInt8} {ts:List Ty} {a:AV} {Post:AV->Prop}
theorem ACe (ha:Aq a (AW ts)) (hl:AZ ts<2 ^ 38) (ih:∀t∈ts,AL (env R) 73 [.agg ((Af t).map .pv)] λr=>r=BB (valid t)) :
  ∀(j q:Nat),q+j=ts.length->Post (BB (BS (ts.drop q)))->jn R 0 0 0 (.ptr 0 0) (AA ts.length) (AA q) ⟨[[AA k,SS n,AA i,a]],[]⟩ (QP Post):=by
 have UT:=BP ts;intro j
 induction j with
 | zero=>
  intro q hi hP;refine AEg ?_;have h1:¬ ((q:Int)<ts.length):=by omega
  simp[h1];refine APA ?_
  simp_all[QP,BS]
 | succ j D2=>
  intro q hi hP;refine AEg ?_;have h1:((q:Int)<ts.length):=by omega
  obtain⟨t,ht⟩:∃t,ts[q]?=some t:=⟨_,Ak (by omega)⟩;have hd:=drop_cons ht;rw[hd] at hP;simp only[BS] at hP;simp[h1];refine APB ?_;simp;refine BI ha (row:=Af t) (by omega) (by simp[*,BE]) (Ac t) (by omega) ?_;have e3:=ih t (A2 ht);cases hg:valid t with
  | true=>
   rw[hg] at e3 hP;obtain⟨k',n',x,es⟩:=t;simp only[Af,CH,Cs] at e3;simp[Af];refine AD e3 ?_;rintro v rfl;simp;refine AKA ?_;simp only[CY,xI];refine⟨⟨Ae,Ae⟩,B7 (by omega) (by omega) ?_⟩;have:=D2 (q+1) (by omega) (by simpa using hP);simpa using this
  | false=>
   rw[hg] at e3 hP;obtain⟨k',n',x,es⟩:=t;simp only[Af,CH,Cs] at e3;simp[Af];refine AD e3 ?_
   simp_all[QP]
theorem Rf (ha:Aq a (AW ts)) (hl:AZ ts<2 ^ 38) (ih:∀t∈ts,AL (env R) 73 [.agg ((Af t).map .pv)] λr=>r=BB (valid t)) (hP:Post (BB (BS ts))) :
  VT R 0 0 0 (.ptr 0 0) (AA ts.length) ⟨[[AA k,SS n,AA i,a]],[]⟩ (QP Post):=
 APC (ACe ha hl ih ts.length 0 (by omega) (by grind))
theorem uP (ha:Aq a (AW ts)) (hl:AZ ts<2 ^ 38) (ih:∀t∈ts,AL (env R) 73 [.agg ((Af t).map .pv)] λr=>r=BB (valid t)) :
  ∀(j q:Nat),q+j=ts.length->Post (BB (Fk (ts.drop q)&&BS ts))->jo R 0 0 0 (.ptr 0 0) (AA ts.length) (AA q) ⟨[[AA k,SS n,AA i,a]],[]⟩ (QP Post):=by
 have UT:=BP ts;intro j
 induction j with
 | zero=>
  intro q hi hP;refine AEh ?_
  simp_all[Rf,Fk]
 | succ j D2=>
  intro q hi hP;refine AEh ?_;have h1:((q:Int)<ts.length):=by omega
  obtain⟨t,ht⟩:∃t,ts[q]?=some t:=⟨_,Ak (by omega)⟩;have hd:=drop_cons ht;rw[hd] at hP;simp only[Fk] at hP;simp[h1];refine APD ?_;simp;refine BI ha (row:=Af t) (by omega) (by simp[*,BE]) (Ac t) (by omega) ?_;have e3:=K7 (R:=R) ts hl t (A2 ht);cases hg:plain t with
  | true=>
   rw[hg] at e3 hP;obtain⟨k',n',x,es⟩:=t;simp only[Af,CH,Cs] at e3;simp[Af];refine AD e3 ?_;rintro v rfl;simp;refine AKB ?_;simp only[CY,xI];refine⟨⟨Ae,Ae⟩,B7 (by omega) (by omega) ?_⟩;have:=D2 (q+1) (by omega) (by simpa using hP);simpa using this
  | false=>
   rw[hg] at e3 hP;obtain⟨k',n',x,es⟩:=t;simp only[Af,CH,Cs] at e3;simp[Af];refine AD e3 ?_
   simp_all[QP]
theorem wf0 (hP:Post (BB (ts.length==0&&BS ts))):M3 R 0 0 0 (.ptr 0 0) (AA ts.length) (AA k) (BB true) ⟨[[AA k,SS n,AA i,a]],[]⟩ (QP Post):=by
 refine Sn ⟨λ_=>?_,by simp⟩;cases ts with
 | nil=>simp_all[QP,BS]
 | cons t l=>
  have b:((l.length:Int)+1==0)=false:=by rfl
  simpa[-beq_iff_eq,-beq_eq_false_iff_ne,QP,QI,b] using hP
theorem wf5 (hP:Post (BB (ts.length==0&&decide (0<=i)&&decide (i<=200)&&BS ts))):M3 R 0 0 0 (.ptr 0 0) (AA ts.length) (AA 5) (BB false) ⟨[[AA 5,SS n,AA i,a]],[]⟩ (QP Post):=by
 refine Sn ⟨by simp,λ_=>⟨⟨rfl,rfl⟩,⟨λ_=>?_,by simp⟩⟩⟩;cases ts with
 | cons t l=>
  have b:((l.length:Int)+1==0)=false:=by rfl
  simpa[-beq_iff_eq,-beq_eq_false_iff_ne,QP,QI,b] using hP
 | nil=>
  by_cases c1:0<=i
  .by_cases c2:i<=200
   .simp_all[QP,BS]
   .simpa[QP,QI,c1,c2,BS] using hP
  .simpa[QP,QI,c1,BS] using hP
theorem wf2 (ha:Aq a (AW ts)) (hl:AZ ts<2 ^ 38) (hn:Xs n) (ih:∀t∈ts,AL (env R) 73 [.agg ((Af t).map .pv)] λr=>r=BB (valid t))
  (hP:Post (BB (Mo n&&!Lu.contains n&&decide (ts.length<=6)&&Fk ts&&BS ts))):M3 R 0 0 0 (.ptr 0 0) (AA ts.length) (AA 2) (BB false) ⟨[[AA 2,SS n,AA i,a]],[]⟩ (QP Post):=by
 refine Sn ⟨by simp,λ_=>⟨⟨rfl,rfl⟩,⟨by simp,λ_=>⟨⟨rfl,rfl⟩,⟨λ_=>?_,by simp⟩⟩⟩⟩⟩;simp only[CI,Bs,LP,LQ,AO,CU,FJ,wO,setCells,CJ,D6,DV,Cv,A0,alive,CY,F9,I4,nx,A6,DC,BO,Gs,Dt,DT,si,qd,okB,sj,sk,sq,sr,su,jh,sw,sx,sy,s7,s8,s9,tA,tB,tC,tD,tE,okF,tF,tG,tH,tI,tJ,Xs,tK,SR,SU,SV,SW,tL,tM,tN,tP,tQ,tR,tS,tT,tU,tV,Fw,tW,qe,tX,tY,tZ,td,th,tj,tq,uA,uB,uC,Cm,xI,xL,xM,xF,xG,g0,g1,lf];simp only[Ig,Hp,CO,CQ,GZ];refine⟨Ae,AD (Zu hn) ?_⟩;rintro v rfl;cases c1:Mo n with
 | false=>
  simp_all[QP]
 | true=>
  simp;refine AD X2 ?_;rintro v rfl;cases c2:Lu.contains n with
  | true=>
   simp_all[QP]
  | false=>
   rw[c1,c2] at hP
   by_cases c3:ts.length<=6
   .have c3':¬ (6<(ts.length:Int)):=by omega
    rw[Ap c3] at hP;simp[c3'];exact APE (uP ha hl ih ts.length 0 (by omega) (by grind))
   .have c3':(6<(ts.length:Int)):=by omega
    simp_all[QP]
theorem wf3 (ha:Aq a (AW ts)) (hl:AZ ts<2 ^ 38) (ih:∀t∈ts,AL (env R) 73 [.agg ((Af t).map .pv)] λr=>r=BB (valid t)) (hP:Post (BB (decide (ts.length<=6)&&BS ts))) :
  M3 R 0 0 0 (.ptr 0 0) (AA ts.length) (AA 3) (BB false) ⟨[[AA 3,SS n,AA i,a]],[]⟩ (QP Post):=by
 refine Sn ⟨by simp,λ_=>⟨⟨rfl,rfl⟩,⟨by simp,λ_=>⟨⟨rfl,rfl⟩,⟨by simp,λ_=>⟨⟨rfl,rfl⟩,⟨λ_=>?_,by simp⟩⟩⟩⟩⟩⟩⟩
 by_cases c:ts.length<=6
 .have c':¬ (6<(ts.length:Int)):=by omega
  rw[Ap c] at hP;simp[c']
  grind[Rf]
 .have c':(6<(ts.length:Int)):=by omega
  simp_all[QP]
theorem wf4 (ha:Aq a (AW ts)) (hl:AZ ts<2 ^ 38) (ih:∀t∈ts,AL (env R) 73 [.agg ((Af t).map .pv)] λr=>r=BB (valid t)) (hP:Post (BB (decide (2<=ts.length)&&BS ts))) :
  M3 R 0 0 0 (.ptr 0 0) (AA ts.length) (AA 4) (BB false) ⟨[[AA 4,SS n,AA i,a]],[]⟩ (QP Post):=by
 refine Sn ⟨by simp,λ_=>⟨⟨rfl,rfl⟩,⟨by simp,λ_=>⟨⟨rfl,rfl⟩,⟨by simp,λ_=>⟨⟨rfl,rfl⟩,⟨by simp,λ_=>⟨⟨rfl,rfl⟩,⟨λ_=>?_,by simp⟩⟩⟩⟩⟩⟩⟩⟩⟩
 by_cases c:2<=ts.length
 .have c':¬ ((ts.length:Int)<2):=by omega
  rw[Ap c] at hP;simp[c']
  grind[Rf]
 .have c':((ts.length:Int)<2):=by omega
  simp_all[QP]
theorem wf6 (ha:Aq a (AW ts)) (hl:AZ ts<2 ^ 38) (ih:∀t∈ts,AL (env R) 73 [.agg ((Af t).map .pv)] λr=>r=BB (valid t)) (hP:Post (BB (ts.length==2&&Sl ts&&BS ts))) :
  M3 R 0 0 0 (.ptr 0 0) (AA ts.length) (AA 6) (BB false) ⟨[[AA 6,SS n,AA i,a]],[]⟩ (QP Post):=by
 refine Sn ⟨by simp,λ_=>⟨⟨rfl,rfl⟩,⟨by simp,λ_=>⟨⟨rfl,rfl⟩,⟨by simp,λ_=>⟨⟨rfl,rfl⟩,⟨by simp,λ_=>⟨⟨rfl,rfl⟩,⟨by simp,λ_=>⟨⟨rfl,rfl⟩,⟨λ_=>?_,by simp⟩⟩⟩⟩⟩⟩⟩⟩⟩⟩⟩
 by_cases c:ts.length=2
 .obtain⟨t,l,rfl⟩:∃t l,ts=t::l:=by
   cases ts with
   | nil=>grind
   | cons t l=>simp
  have hl':=hl;simp only[AZ] at hl';have e3:AL (env R) 48 [.agg ((Af t).map .pv)] λr=>r=BB (Co 0 t):=IM (by omega) (A5.BZ t)
  have hP':Post (BB (Co 0 t&&BS (t::l))):=by
   rw[show(t::l).length==2 by grind] at hP;simpa[Sl] using hP
  have b:(((t::l).length:Int) != 2)=false:=by
   rw[c]; rfl
  simp only[CI,Bs,LP,LQ,AO,CU,FJ,wO,setCells,CJ,D6,DV,Cv,A0,alive,CY,F9,I4,nx,A6,DC,BO,Gs,Dt,DT,si,qd,okB,sj,sk,sq,sr,su,jh,sw,sx,sy,s7,s8,s9,tA,tB,tC,tD,tE,okF,tF,tG,tH,tI,tJ,Xs,tK,SR,SU,SV,SW,tL,tM,tN,tP,tQ,tR,tS,tT,tU,tV,Fw,tW,qe,tX,tY,tZ,td,th,tj,tq,uA,uB,uC,Cm,b,xI,xL,xM,xF,xG,g0,g1,lf];refine⟨⟨Ae,Ae⟩,?_⟩;simp;refine BI ha (row:=Af t) (by omega) (by simp[AW]) (Ac t) (by omega) ?_;obtain⟨k',n',x,es⟩:=t;simp only[Af,CH,Cs] at e3;simp[Af];refine AD e3 ?_;rintro v rfl;cases hc:Co 0 (.mk k' n' x es) with
  | false=>
   rw[hc] at hP';simpa[QP,QI] using hP'
  | true=>
   rw[hc] at hP';simp;have:=Rf (n:=n) (k:=6) (i:=i) ha hl ih (by simpa using hP')
   grind
 .have c':¬ ((ts.length:Int)=2):=by omega
  have b:(ts.length==2)=false:=by grind
  rw[b] at hP;have b':((ts.length:Int) != 2)=true:=by grind
  simpa[-bne_iff_ne,QP,QI,b'] using hP
theorem wf7 (h5:¬ k=5) (h2:¬ k=2) (h3:¬ k=3) (h4:¬ k=4) (h6:¬ k=6) (hP:Post (BB false)):M3 R 0 0 0 (.ptr 0 0) (AA ts.length) (AA k) (BB false) ⟨[[AA k,SS n,AA i,a]],[]⟩ (QP Post):=by
 refine Sn ⟨by simp,λ_=>⟨⟨rfl,rfl⟩,⟨by grind,λ_=>⟨⟨rfl,rfl⟩,⟨by grind,λ_=>⟨⟨rfl,rfl⟩,⟨by grind,λ_=>⟨⟨rfl,rfl⟩,⟨by grind,λ_=>⟨⟨rfl,rfl⟩,⟨by grind,λ_=>?_⟩⟩⟩⟩⟩⟩⟩⟩⟩⟩⟩;exact⟨_,Fw,hP⟩
theorem Pg (ha:Aq a (AW ts)) (hs:AZ ts<2 ^ 38) (hn:Xs n) (ih:∀t∈ts,AL (env R) 73 [.agg ((Af t).map .pv)] λr=>r=BB (valid t)) (hP:Post (BB (shape k n i ts&&BS ts))) :
  uQ R 0 0 0 (.ptr 0 0) (AA ts.length) ⟨[[AA k,SS n,AA i,a]],[]⟩ (QP Post):=by
 refine APF ?_
 by_cases h0:k=0
 .simp_all[wf0,shape]
 by_cases h1:k=1
 .simp_all[wf0,shape]
 have b0:(k==0)=false:=by grind
 have b1:(k==1)=false:=by grind
 simp[h0];have e:(BB (k==1):AV)=BB false:=by rw[b1]
 grind[wf2,shape,wf3,wf4,wf5,wf6,wf7]
end
end
abbrev ph (v:Nat):Ty:=.mk 7 [] v []
abbrev var (i:Int):Ty:=.mk 5 [] i []
def hole:Int:=1073741824
structure Br where
 bounds:List Ty
 body:Ty
def dU {α:Type} (d:α) (g:Ty->Ty->α):List Ty->α
 | [b,body]=>g b body
 | _=>d
mutual
def CM (f:Int->Ty):Ty->Ty
 | .mk k n i ts=>bif k==5 then f i else bif k==2||k==3 then .mk k n i (Cp f ts) else .mk k n i ts
def Cp (f:Int->Ty):List Ty->List Ty
 | []=>[]
 | t::l=>CM f t::Cp f l
end
def H8 (n:Nat):Ty->Ty:=CM λi=>bif decide (0<=i)&&!(i==hole) then var (i+n) else var i
def qf:Ty->Ty:=CM λi=>var (-1-i)
def JO (n:Nat):Ty->Ty:=CM λi=>bif i==-1 then var n else bif decide (i<0) then var (i+1) else var i
def KV (n m:Int):Ty->Ty:=CM λi=>bif i==n then var m else var i
mutual
def oA (p:Int->Bool):Ty->Bool
 | .mk k _ i ts=>bif k==5 then p i else k==2&&VU p ts
def VU (p:Int->Bool):List Ty->Bool
 | []=>false
 | t::l=>oA p t||VU p l
end
mutual
def oI (p:Int->Bool):Ty->Bool
 | .mk k n i ts=>bif k==2 then oA p (.mk k n i ts) else k==3&&Ph p ts
def Ph (p:Int->Bool):List Ty->Bool
 | []=>false
 | t::l=>oI p t||Ph p l
end
mutual
def Ai:Ty->List Int
 | .mk k _ i ts=>bif k==5 then [i] else bif k==3 then Bp ts else []
def Bp:List Ty->List Int
 | []=>[]
 | t::l=>Ai t++Bp l
end
mutual
def Pj (b:Ty):Ty->Nat->Ty
 | .mk c n i ts,k=>bif c==5 then(bif k==0 then b else .mk c n i ts) else bif c==3 then .mk c n i (KW b ts k) else .mk c n i ts
def KW (b:Ty):List Ty->Nat->List Ty
 | [],_=>[]
 | t::l,k=>bif decide (k<(Ai t).length) then Pj b t k::l else t::KW b l (k-(Ai t).length)
end
def GI (b:Ty):Option Nat:=(Ai b).findIdx? (·==hole)
def Dm (b:Br) (k:Nat) (c:Br):Br:=⟨b.bounds++c.bounds,Pj (H8 b.bounds.length c.body) b.body k⟩
section
variable (BA:Nat->Bool)
def IP {α β:Type} (g:α->Option (List β)):List α->List β->Option (List β)
 | [],out=>some out
 | a::l,out=>match g a with
  | none=>none
  | some r=>bif BA (out++r).length then none else IP g l (out++r)
def Eb (l:List Br):Nat->Br->Option (List Br)
 | 0,b=>some [b]
 | f+1,b=>match GI b.body with
  | none=>some [b]
  | some k=>IP BA (λc=>Eb l f (Dm b k c)) l []
def FL (So:Option (List Br)) (bound:Ty) (b:Br):Option (List Br):=
 bif oI (·==(b.bounds.length:Int)) (JO b.bounds.length b.body) then some [⟨b.bounds++[bound],JO b.bounds.length b.body⟩]
 else match GI (KV b.bounds.length hole (JO b.bounds.length b.body)) with
  | none=>some [⟨b.bounds,KV b.bounds.length hole (JO b.bounds.length b.body)⟩]
  | some _=>match So with
   | none=>none
   | some l=>Eb BA l (Ai b.body).length ⟨b.bounds,KV b.bounds.length hole (JO b.bounds.length b.body)⟩
def HE (out:List Br) (l:List Br):List Br:=out.flatMap λb=>l.map λc=>⟨b.bounds++c.bounds,match b.body with
 | .mk _ _ _ args=>.mk 3 [] 0 (args++[H8 b.bounds.length c.body])⟩
def JP:List (List Br)->List Br->Option (List Br)
 | [],out=>some out
 | l::ls,out=>bif BA (HE out l).length then none else JP ls (HE out l)
def FM {α:Type}:List (Option α)->Option (List α)
 | []=>some []
 | none::_=>none
 | some a::l=>match FM l with
  | none=>none
  | some r=>some (a::r)
def DM:Nat->Ty->Option (List Br)
 | 0,_=>none
 | f+1,.mk k n i ts=>
  bif k==0 then some [⟨[],.mk k n i ts⟩]
  else bif k==2||k==5 then some [⟨[],qf (.mk k n i ts)⟩]
  else bif k==3 then match FM (ts.map (DM f)) with
   | none=>none
   | some ls=>bif ls.any List.isEmpty then some [] else JP BA ls [⟨[],.mk 3 [] 0 []⟩]
  else bif k==4 then match FM (ts.map (DM f)) with
   | none=>none
   | some ls=>bif BA ls.flatten.length then none else some ls.flatten
  else bif k==6 then dU (some []) (λb body=>match DM f body with
    | none=>none
    | some l=>IP BA (FL BA (DM f b) b) l []) ts
  else some []
mutual
def sub (v:Nat) (u:Nat):Ty->Ty
 | .mk k n i ts=>bif k==5 then(bif i==(u:Int) then ph v else bif decide ((u:Int)<i) then .mk k n (i-1) ts else .mk k n i ts) else .mk k n i (J9 v u k 0 ts)
def J9 (v:Nat) (u:Nat) (k:Int) (j:Nat):List Ty->List Ty
 | []=>[]
 | t::l=>sub v (u+Ea k j) t::J9 v u k (j+1) l
end
mutual
def DW (v:Nat) (inv:Bool):Ty->Bool
 | .mk k _ i ts=>bif k==7 then i==(v:Int)&&!inv else Fl v (inv&&!(k==2)) ts
def Fl (v:Nat) (inv:Bool):List Ty->Bool
 | []=>false
 | t::l=>DW v inv t||Fl v inv l
end
mutual
def BT (m:Int->Bool):Ty->Nat
 | .mk k _ i ts=>bif k==7 then(bif m i then 1 else 0) else bif k==3 then CX m ts else 0
def CX (m:Int->Bool):List Ty->Nat
 | []=>0
 | t::l=>BT m t+CX m l
end
mutual
def KA (m:Int->Bool) (b:Ty):Ty->Nat->Ty
 | .mk c n i ts,k=>bif c==7 then(bif m i&&k==0 then b else .mk c n i ts) else bif c==3 then .mk c n i (Jj m b ts k) else .mk c n i ts
def Jj (m:Int->Bool) (b:Ty):List Ty->Nat->List Ty
 | [],_=>[]
 | t::l,k=>bif decide (k<BT m t) then KA m b t k::l else t::Jj m b l (k-BT m t)
end
abbrev Fm:=Option (List Ty)×List Ty
def CZ {α:Type} (g:α->List Ty->Fm):List α->List Ty->List Ty->Fm
 | [],out,B=>(some out,B)
 | a::l,out,B=>match g a B with
  | (none,B)=>(none,B)
  | (some r,B)=>bif BA (out++r).length then(none,B) else CZ g l (out++r) B
def CN (ex:List Ty->Fm) (v:Nat):Nat->Ty->List Ty->Fm
 | 0,t,B=>(some [t],B)
 | f+1,t,B=>bif DW v false t then match ex B with
   | (none,B)=>(none,B)
   | (some cs,B)=>CZ BA (λc B=>CN ex v f (KA (·==(v:Int)) c t 0) B) cs [] B
  else(some [t],B)
def Bv (ex:List Ty->Fm) (v:Nat) (t:Ty) (B:List Ty):Fm:=
 bif DW v true t then(some [t],B) else CN BA ex v (BT (·==(v:Int)) t) t B
def Dn:List (List Ty)->List (List Ty)->Option (List (List Ty))
 | [],out=>some out
 | l::ls,out=>bif BA (out.flatMap λp=>l.map λx=>p++[x]).length then none else Dn ls (out.flatMap λp=>l.map λx=>p++[x])
def Gz (ex:Ty->List Ty->Fm):List Ty->List Ty->Bool->List Ty->(List Ty×Bool)×List Ty
 | [],out,ok,B=>((out,ok),B)
 | t::l,out,ok,B=>match ex t B with
  | (none,B)=>Gz ex l out false B
  | (some r,B)=>Gz ex l (out++r) ok B
def Er (ex:Ty->List Ty->Fm):List Ty->List (List Ty)->List Ty->Option (List (List Ty))×List Ty
 | [],out,B=>(some out,B)
 | t::l,out,B=>match ex t B with
  | (none,B)=>(none,B)
  | (some r,B)=>Er ex l (out++[r]) B
def A3:Nat->Ty->List Ty->Fm
 | 0,_,B=>(none,B)
 | f+1,.mk k n i ts,B=>
  bif k==0||k==2||k==7 then(bif BA 1 then none else some [.mk k n i ts],B)
  else bif k==4 then match Gz (A3 f) ts [] true B with
   | ((out,ok),B)=>(bif ok&&!BA out.length then some out else none,B)
  else bif k==3 then match Er (A3 f) ts [] B with
   | (none,B)=>(none,B)
   | (some ls,B)=>bif ls.any List.isEmpty then(some [],B) else match Dn BA ls [[]] with
    | none=>(none,B)
    | some all=>(bif BA all.length then none else some (all.map (.mk 3 [] 0)),B)
  else bif k==6 then dU (some [],B) (λb body=>match A3 f (sub B.length 0 body) (B++[b]) with
    | (none,B1)=>(none,B1)
    | (some l,B1)=>match CZ BA (Bv BA (A3 f b) B.length) l [] B1 with
     | (none,B2)=>(none,B2)
     | (some out,B2)=>(bif BA out.length then none else some out,B2)) ts
  else(bif BA 0 then none else some [],B)
end
mutual
def vis:Ty->List Int
 | .mk k _ i ts=>bif k==5 then [i] else bif k==2||k==3 then Ec ts else []
def Ec:List Ty->List Int
 | []=>[]
 | t::l=>vis t++Ec l
end
def VV (t:Ty):Bool:=valid t&&Co 0 t
mutual
def pl:Ty->Bool
 | .mk k n i ts=>bif k==5 then n==[]&&ts.isEmpty else bif k==2 then X5 ts else VV (.mk k n i ts)
def X5:List Ty->Bool
 | []=>true
 | t::l=>pl t&&X5 l
end
mutual
def bd:Ty->Bool
 | .mk k n i ts=>bif k==5 then n==[]&&ts.isEmpty else bif k==2 then X5 ts else bif k==3 then Mp ts else VV (.mk k n i ts)
def Mp:List Ty->Bool
 | []=>true
 | t::l=>bd t&&Mp l
end
theorem jq {k i:Int} {n:List UInt8} {ts:List Ty} (hk:k≠6) (h:VV (.mk k n i ts)=true):∀t∈ts,VV t=true:=by
 unfold VV at h;simp only[AE,valid,Co] at h;obtain⟨⟨_,h1⟩,h2⟩:=h;have h3:D7 0 k 0 ts=true:=by grind
 have k6:(k==6)=false:=by grind
 have hb:∀j,Ea k j=0:=λj=>by simp[Ea,k6]
 have:∀(l:List Ty) (j:Nat),BS l=true->D7 0 k j l=true->∀t∈l,VV t=true:=by
  intro l
  induction l with
  | nil=>simp
  | cons a l ih=>
   grind[BS,D7,VV]
 grind
theorem Sq {k i:Int} {n:List UInt8} {ts:List Ty} (h:VV (.mk k n i ts)=true):k≠5/\k≠7:=by grind[VV,valid,Co,root,shape]
mutual
theorem MX:∀(t:Ty) (f:Int->Ty),VV t=true->CM f t=t
 | .mk k n i ts,f,h=>by
  have hk:=Sq h;have b5:(k==5)=false:=by grind
  rw[CM,b5];simp only[AG];cases b:(k==2||k==3) with
  | false=>rfl
  | true=>
   have fL:k≠6:=by grind
   simp only[AN];rw[Zx ts f (jq fL h)]
theorem Zx:∀(l:List Ty) (f:Int->Ty),(∀t∈l,VV t=true)->Cp f l=l
 | [],_,_=>rfl
 | t::l,f,h=>by
  rw[Cp,MX t f (h t (by simp)),Zx l f λt ht=>h t (E5 _ ht)]
end
mutual
theorem fM:∀(t:Ty),VV t=true->vis t=[]
 | .mk k n i ts,h=>by
  have hk:=Sq h;have b5:(k==5)=false:=by grind
  rw[vis,b5];simp only[AG];cases b:(k==2||k==3) with
  | false=>rfl
  | true=>
   have fL:k≠6:=by grind
   simp only[AN];exact jr ts (jq fL h)
theorem jr:∀(l:List Ty),(∀t∈l,VV t=true)->Ec l=[]
 | [],_=>rfl
 | t::l,h=>by
  rw[Ec,fM t (h t (by simp)),jr l λt ht=>h t (E5 _ ht)];rfl
end
mutual
theorem HZ (f:Int->Ty) (g:Int->Int):∀t:Ty,CM f (CM (λi=>var (g i)) t)=CM (λi=>f (g i)) t
 | .mk k n i ts=>by
  rw[CM,CM];cases b5:(k==5) with
  | true=>rfl
  | false=>
   cases b:(k==2||k==3) with
   | false=>grind[CM]
   | true=>simp only[AG,AN,CM,b5,b,Sr f g ts]
theorem Sr (f:Int->Ty) (g:Int->Int):∀l:List Ty,Cp f (Cp (λi=>var (g i)) l)=Cp (λi=>f (g i)) l
 | []=>rfl
 | t::l=>by simp only[Cp,HZ f g t,Sr f g l]
end
mutual
theorem EW {f g:Int->Ty}:∀(t:Ty),(∀i∈vis t,f i=g i)->CM f t=CM g t
 | .mk k n i ts,h=>by
  rw[CM,CM];rw[vis] at h;cases b5:(k==5) with
  | true=>
   grind
  | false=>
   rw[b5] at h;cases b:(k==2||k==3) with
   | false=>rfl
   | true=>
    rw[b] at h;simp only[AG,AN] at h ⊢;rw[Qj ts h]
theorem Qj {f g:Int->Ty}:∀(l:List Ty),(∀i∈Ec l,f i=g i)->Cp f l=Cp g l
 | [],_=>rfl
 | t::l,h=>by
  simp only[Ec,CG] at h;rw[Cp,Cp,EW t λi hi=>h i (.inl hi),Qj l λi hi=>h i (.inr hi)]
end
mutual
theorem MY (g:Int->Int):∀t:Ty,vis (CM (λi=>var (g i)) t)=(vis t).map g
 | .mk k n i ts=>by
  rw[CM,vis];cases b5:(k==5) with
  | true=>rfl
  | false=>
   cases b:(k==2||k==3) with
   | false=>grind[vis]
   | true=>simp only[AG,AN,vis,b5,b,Zy g ts]
theorem Zy (g:Int->Int):∀l:List Ty,Ec (Cp (λi=>var (g i)) l)=(Ec l).map g
 | []=>rfl
 | t::l=>by simp only[Cp,Ec,MY g t,Zy g l,RJ]
end
mutual
theorem EN (g:Int->Int):∀t:Ty,Ai (CM (λi=>var (g i)) t)=(Ai t).map g
 | .mk k n i ts=>by
  rw[CM,Ai];cases b5:(k==5) with
  | true=>rfl
  | false=>
   cases b3:(k==3) with
   | true=>simp only[AG,AN,Ai,b5,b3,G6,VW g ts]
   | false=>
    grind[Ai]
theorem VW (g:Int->Int):∀l:List Ty,Bp (Cp (λi=>var (g i)) l)=(Bp l).map g
 | []=>rfl
 | t::l=>by simp only[Cp,Bp,EN g t,VW g l,RJ]
end
mutual
theorem OZ:∀(t:Ty),∀i∈Ai t,i∈vis t
 | .mk k n i ts=>by
  rw[Ai,vis];cases b5:(k==5) with
  | true=>simp
  | false=>
   cases b3:(k==3) with
   | true=>simpa using VX ts
   | false=>simp
theorem VX:∀(l:List Ty),∀i∈Bp l,i∈Ec l
 | []=>by simp[Bp]
 | t::l=>by
  intro i hi;simp only[Bp,Ec,CG] at hi ⊢;rcases hi with hi|hi
  .exact .inl (OZ t i hi)
  .exact .inr (VX l i hi)
end
mutual
theorem uR (p:Int->Bool) (g:Int->Int):∀t:Ty,pl t=true->oA p (CM (λi=>var (g i)) t)=oA (λi=>p (g i)) t
 | .mk k n i ts,h=>by
  rw[CM,oA];cases b5:(k==5) with
  | true=>rfl
  | false=>
   cases b2:(k==2) with
   | true=>
    rw[pl,b5,b2] at h;simp only[AG,AN] at h;simp only[AG,AN,oA,b5,b2,Hq,E6,js p g ts h]
   | false=>
    grind[oA]
theorem js (p:Int->Bool) (g:Int->Int):∀l:List Ty,X5 l=true->VU p (Cp (λi=>var (g i)) l)=VU (λi=>p (g i)) l
 | [],_=>rfl
 | t::l,h=>by
  simp only[X5,AE] at h;simp only[Cp,VU,uR p g t h.1,js p g l h.2]
end
mutual
theorem Zz {p q:Int->Bool}:∀t:Ty,(∀i∈vis t,p i=q i)->oA p t=oA q t
 | .mk k n i ts,h=>by
  rw[vis] at h;rw[oA,oA];cases b5:(k==5) with
  | true=>grind
  | false=>
   rw[b5] at h;cases b2:(k==2) with
   | false=>simp
   | true=>
    rw[b2] at h;simp only[AG,AN,Hq] at h ⊢;rw[VY ts h]
theorem VY {p q:Int->Bool}:∀l:List Ty,(∀i∈Ec l,p i=q i)->VU p l=VU q l
 | [],_=>rfl
 | t::l,h=>by
  simp only[Ec,CG] at h;rw[VU,VU,Zz t λi hi=>h i (.inl hi),VY l λi hi=>h i (.inr hi)]
end
mutual
theorem Ss {p q:Int->Bool}:∀t:Ty,(∀i∈vis t,p i=q i)->oI p t=oI q t
 | .mk k n i ts,h=>by
  have h0:=Zz (.mk k n i ts) h;rw[vis] at h;rw[oI,oI];cases b2:(k==2) with
  | true=>grind
  | false=>
   cases b3:(k==3) with
   | false=>simp
   | true=>
    have b5:(k==5)=false:=by grind
    rw[b5,b3] at h;simp only[AG,AN,G6] at h;simp only[AG,E6];exact VZ ts h
theorem VZ {p q:Int->Bool}:∀l:List Ty,(∀i∈Ec l,p i=q i)->Ph p l=Ph q l
 | [],_=>rfl
 | t::l,h=>by
  simp only[Ec,CG] at h;rw[Ph,Ph,Ss t λi hi=>h i (.inl hi),VZ l λi hi=>h i (.inr hi)]
end
mutual
theorem AKC (g:Int->Int):∀t:Ty,pl t=true->pl (CM (λi=>var (g i)) t)=true
 | .mk k n i ts,h=>by
  rw[CM];cases b5:(k==5) with
  | true=>rfl
  | false=>
   cases b2:(k==2) with
   | true=>
    rw[pl,b5,b2] at h;simp only[AG,AN] at h;simp only[AG,AN,Hq,pl,b5,b2,X6 g ts h]
   | false=>
    have hc:VV (.mk k n i ts)=true:=by grind[pl]
    have e:=MX (.mk k n i ts) (λi=>var (g i)) hc
    grind[CM]
theorem X6 (g:Int->Int):∀l:List Ty,X5 l=true->X5 (Cp (λi=>var (g i)) l)=true
 | [],_=>rfl
 | t::l,h=>by
  simp only[X5,AE] at h;simp only[Cp,X5,AKC g t h.1,X6 g l h.2,Kr]
end
mutual
theorem Pk (g:Int->Int):∀t:Ty,bd t=true->bd (CM (λi=>var (g i)) t)=true
 | .mk k n i ts,h=>by
  rw[CM];cases b5:(k==5) with
  | true=>rfl
  | false=>
   cases b2:(k==2) with
   | true=>
    simp_all[bd,X6]
   | false=>
    cases b3:(k==3) with
    | true=>
     rw[bd,b5,b2,b3] at h;simp only[AG,AN] at h;simp only[AG,AN,G6,bd,b5,b2,b3,jt g ts h]
    | false=>
     grind
theorem jt (g:Int->Int):∀l:List Ty,Mp l=true->Mp (Cp (λi=>var (g i)) l)=true
 | [],_=>rfl
 | t::l,h=>by
  simp only[Mp,AE] at h;simp only[Cp,Mp,Pk g t h.1,jt g l h.2,Kr]
end
mutual
theorem uS (p:Int->Bool) (g:Int->Int):∀t:Ty,bd t=true->oI p (CM (λi=>var (g i)) t)=oI (λi=>p (g i)) t
 | .mk k n i ts,h=>by
  cases b2:(k==2) with
  | true=>
   have h2:k=2:=by grind
   subst h2;have hp:pl (.mk 2 n i ts)=true:=by assumption
   have:=uR p g (.mk 2 n i ts) hp
   assumption
  | false=>
   rw[CM,oI];cases b5:(k==5) with
   | true=>
    grind[oI]
   | false=>
    cases b3:(k==3) with
    | true=>
     rw[bd,b5,b2,b3] at h;simp only[AG,AN] at h;simp only[AG,AN,G6,oI,b2,b3,E6,ju p g ts h]
    | false=>grind[oI]
theorem ju (p:Int->Bool) (g:Int->Int):∀l:List Ty,Mp l=true->Ph p (Cp (λi=>var (g i)) l)=Ph (λi=>p (g i)) l
 | [],_=>rfl
 | t::l,h=>by
  simp only[Mp,AE] at h;simp only[Cp,Ph,uS p g t h.1,ju p g l h.2]
end
theorem JQ {k i:Int} {n:List UInt8} {ts:List Ty} (h:valid (.mk k n i ts)=true):k≠7:=by grind[valid,root,shape]
mutual
theorem K9 (v:Nat):∀(t:Ty) (inv:Bool),valid t=true->DW v inv t=false
 | .mk k n i ts,inv,h=>by
  have b7:(k==7)=false:=by grind[JQ]
  simp only[valid,AE] at h;rw[DW,b7];simp only[AG];exact Qk v ts _ h.2
theorem Qk (v:Nat):∀(l:List Ty) (inv:Bool),BS l=true->Fl v inv l=false
 | [],_,_=>rfl
 | t::l,inv,h=>by
  simp only[BS,AE] at h;rw[Fl,K9 v t inv h.1,Qk v l inv h.2];rfl
end
theorem MZ {t:Ty} (h:VV t=true):valid t=true:=by grind[VV]
section
variable (φ:Int->Nat)
abbrev tr (b:Ty):Ty:=CM (λi=>ph (φ i)) b
abbrev Su (l:List Ty):List Ty:=Cp (λi=>ph (φ i)) l
mutual
theorem ACf (v:Nat):∀b:Ty,pl b=true->DW v false (tr φ b)=oA (λi=>φ i==v) b
 | .mk k n i ts,h=>by
  rw[tr,CM,oA];cases b5:(k==5) with
  | true=>
   grind[DW]
  | false=>
   cases b2:(k==2) with
   | true=>
    have h2:k=2:=by grind
    subst h2;rw[pl] at h;have:=Oa v ts (by grind)
    assumption
   | false=>
    have hc:VV (.mk k n i ts)=true:=by grind[pl]
    have e:=MX (.mk k n i ts) (λi=>ph (φ i)) hc
    grind[CM,K9,MZ]
theorem Oa (v:Nat):∀l:List Ty,X5 l=true->Fl v false (Su φ l)=VU (λi=>φ i==v) l
 | [],_=>rfl
 | t::l,h=>by
  simp only[X5,AE] at h;rw[Su,Cp,Fl,VU];rw[ACf v t h.1,Oa v l h.2]
end
mutual
theorem jv (v:Nat):∀b:Ty,bd b=true->DW v true (tr φ b)=oI (λi=>φ i==v) b
 | .mk k n i ts,h=>by
  rw[tr,CM,oI];cases b5:(k==5) with
  | true=>
   grind[DW]
  | false=>
   cases b2:(k==2) with
   | true=>
    simp_all[bd,Oa,DW,oA]
   | false=>
    cases b3:(k==3) with
    | true=>
     have h3:k=3:=by grind
     subst h3;rw[bd] at h;have:=Z0 v ts (by grind)
     assumption
    | false=>
     grind[bd,K9,MZ]
theorem Z0 (v:Nat):∀l:List Ty,Mp l=true->Fl v true (Su φ l)=Ph (λi=>φ i==v) l
 | [],_=>rfl
 | t::l,h=>by
  simp only[Mp,AE] at h;rw[Su,Cp,Fl,Ph,jv v t h.1,Z0 v l h.2]
end
mutual
theorem uT (v:Nat):∀b:Ty,bd b=true->DW v false (tr φ b)=(oI (λi=>φ i==v) b||(Ai b).any λi=>φ i==v)
 | .mk k n i ts,h=>by
  rw[tr,CM,oI,Ai];cases b5:(k==5) with
  | true=>
   grind[DW]
  | false=>
   cases b2:(k==2) with
   | true=>
    simp_all[bd,Oa,DW,oA]
   | false=>
    cases b3:(k==3) with
    | true=>
     have h3:k=3:=by grind
     subst h3;rw[bd] at h;have:=jx v ts (by grind)
     assumption
    | false=>
     grind[bd,K9,MZ]
theorem jx (v:Nat):∀l:List Ty,Mp l=true->Fl v false (Su φ l)=(Ph (λi=>φ i==v) l||(Bp l).any λi=>φ i==v)
 | [],_=>rfl
 | t::l,h=>by
  simp only[Mp,AE] at h;rw[Su,Cp,Fl,Ph,Bp,uT v t h.1,jx v l h.2,List.any_append]
  grind
end
mutual
theorem fN (m:Int->Bool):∀b:Ty,bd b=true->BT m (tr φ b)=(Ai b).countP λi=>m (φ i)
 | .mk k n i ts,h=>by
  rw[tr,CM,Ai];cases b5:(k==5) with
  | true=>
   rfl
  | false=>
   cases b3:(k==3) with
   | true=>
    have h3:k=3:=by grind
    subst h3;rw[bd] at h;have:=jy m ts (by grind)
    assumption
   | false=>
    grind[bd,Sq,BT]
theorem jy (m:Int->Bool):∀l:List Ty,Mp l=true->CX m (Su φ l)=(Bp l).countP λi=>m (φ i)
 | [],_=>rfl
 | t::l,h=>by
  simp only[Mp,AE] at h;rw[Su,Cp,CX,Bp,fN m t h.1,jy m l h.2,RL]
end
mutual
theorem AEi (m:Int->Bool) (c:Ty):∀(b:Ty) (k j:Nat),bd b=true->(∃x,(Ai b)[k]?=some x/\m (φ x)=true)->((Ai b).take k).countP (λi=>m (φ i))=j->tr φ (Pj c b k)=KA m (tr φ c) (tr φ b) j
 | .mk k n i ts,q,j,h,hx,hj=>by
  cases b5:(k==5) with
  | true=>
   grind[Ai,Pj,CM,KA]
  | false=>
   cases b3:(k==3) with
   | true=>
    have h3:k=3:=by grind
    subst h3;rw[bd] at h;rw[Ai] at hx hj;have:=uU m c ts q j (by grind) (by grind) (by grind)
    grind[Pj,CM,KA]
   | false=>
    grind[Ai]
theorem uU (m:Int->Bool) (c:Ty):∀(l:List Ty) (k j:Nat),Mp l=true->(∃x,(Bp l)[k]?=some x/\m (φ x)=true)->((Bp l).take k).countP (λi=>m (φ i))=j->Su φ (KW c l k)=Jj m (tr φ c) (Su φ l) j
 | [],q,j,_,hx,_=>by rfl
 | t::l,q,j,h,hx,hj=>by
  simp only[Mp,AE] at h;obtain⟨x,hx,hm⟩:=hx;rw[Bp] at hx hj;have hc:=fN φ m t h.1;rw[show Su φ (t::l)=tr φ t::Su φ l from rfl]
  by_cases hq:q<(Ai t).length
  .rw[Ci hq] at hx
   rw[W8 (by omega)] at hj;have hlt:j<BT m (tr φ t):=by grind[List.take_append_drop]
   rw[KW,Jj,Ap hq,Ap hlt];simp only[AN];rw[<-AEi m c t q j h.1 ⟨x,hx,hm⟩ hj];rfl
  .rw[E4 (by omega)] at hx
   rw[List.take_append,CA (by omega),RL,<-hc] at hj;have hlt:¬ j<BT m (tr φ t):=by omega
   rw[KW,Jj,Aw hq,Aw hlt];simp only[AG];rw[<-uU m c l (q-(Ai t).length) (j-BT m (tr φ t)) h.2 ⟨x,hx,hm⟩ (by omega)];rfl
end
end
section
variable (c:Ty)
mutual
theorem Ob:∀(b:Ty) (k:Nat),k<(Ai b).length->Ai (Pj c b k)=(Ai b).take k++(Ai c++(Ai b).drop (k+1))
 | .mk q n i ts,k,hk=>by
  rw[Ai] at hk ⊢;rw[Pj];cases b5:(q==5) with
  | true=>
   grind
  | false=>
   rw[b5] at hk;cases b3:(q==3) with
   | true=>
    rw[b3] at hk;simp only[AG,AN] at hk ⊢;rw[Ai,b5,b3];exact Z1 ts k hk
   | false=>grind
theorem Z1:∀(l:List Ty) (k:Nat),k<(Bp l).length->Bp (KW c l k)=(Bp l).take k++(Ai c++(Bp l).drop (k+1))
 | [],k,hk=>by grind[Bp]
 | t::l,k,hk=>by
  rw[Bp] at hk ⊢;rw[KW]
  by_cases h:k<(Ai t).length
  .rw[Ap h]
   simp only[AN,Bp];rw[Ob t k h,W8 (by omega),List.drop_append_of_le_length (by omega)];simp
  .rw[Aw h]
   simp only[AG,Bp];have hk':k-(Ai t).length<(Bp l).length:=by grind
   have e1:(Ai t).take k=Ai t:=CA (by omega);have e2:(Ai t).drop (k+1)=[]:=Bu (by omega);rw[Z1 l _ hk',List.take_append,e1,List.drop_append,e2]
   grind
end
mutual
theorem uV:∀(b:Ty) (k:Nat),∀i∈vis (Pj c b k),i∈vis b\/i∈vis c
 | .mk q n j ts,k,i,hi=>by
  rw[Pj] at hi;cases b5:(q==5) with
  | true=>
   grind
  | false=>
   rw[b5] at hi;cases b3:(q==3) with
   | true=>
    rw[b3] at hi;simp only[AG,AN] at hi;rw[vis,b5,b3] at hi ⊢;simp only[AG,G6,AN] at hi ⊢;exact jz ts k i hi
   | false=>
    grind
theorem jz:∀(l:List Ty) (k:Nat),∀i∈Ec (KW c l k),i∈Ec l\/i∈vis c
 | [],k,i,hi=>by grind[KW]
 | t::l,k,i,hi=>by
  rw[KW] at hi;simp only[Ec,CG];cases b:decide (k<(Ai t).length) with
  | true=>
   rw[b] at hi;simp only[AN,Ec,CG] at hi;rcases hi with hi|hi
   .rcases uV t k i hi with h|h
    all_goals grind
   grind
  | false=>
   rw[b] at hi;simp only[AG,Ec,CG] at hi;rcases hi with hi|hi
   .grind
   .rcases jz l _ i hi with h|h
    all_goals grind
end
mutual
theorem AEj (p:Int->Bool):∀(b:Ty) (k:Nat),oI p (Pj c b k)=true->oI p b=true\/oI p c=true
 | .mk q n j ts,k,hi=>by
  rw[Pj] at hi;cases b5:(q==5) with
  | true=>
   grind
  | false=>
   rw[b5] at hi;cases b3:(q==3) with
   | true=>
    have h3:q=3:=by grind
    subst h3;simp only[AG,AN,C7] at hi;rw[oI] at hi ⊢;simp only[show((3:Int)==2)=false from rfl,AG,C7,E6] at hi ⊢;exact uW p ts k hi
   | false=>
    grind
theorem uW (p:Int->Bool):∀(l:List Ty) (k:Nat),Ph p (KW c l k)=true->Ph p l=true\/oI p c=true
 | [],k,hi=>by grind[KW]
 | t::l,k,hi=>by
  rw[KW] at hi;simp only[Ph,Dk];cases b:decide (k<(Ai t).length) with
  | true=>
   rw[b] at hi;simp only[AN,Ph,Dk] at hi;rcases hi with hi|hi
   .rcases AEj p t k hi with h|h
    all_goals grind
   grind
  | false=>
   rw[b] at hi;simp only[AG,Ph,Dk] at hi;rcases hi with hi|hi
   .grind
   .rcases uW p l _ hi with h|h
    all_goals grind
end
mutual
theorem AEk (hc:bd c=true):∀(b:Ty) (k:Nat),bd b=true->bd (Pj c b k)=true
 | .mk q n j ts,k,h=>by
  rw[Pj];cases b5:(q==5) with
  | true=>
   grind
  | false=>
   cases b3:(q==3) with
   | true=>
    have h3:q=3:=by grind
    subst h3;rw[bd] at h;simp only[AG,AN];rw[bd];have:=uX hc ts k (by grind)
    grind
   | false=>grind
theorem uX (hc:bd c=true):∀(l:List Ty) (k:Nat),Mp l=true->Mp (KW c l k)=true
 | [],k,h=>h
 | t::l,k,h=>by
  simp only[Mp,AE] at h;rw[KW];cases decide (k<(Ai t).length) with
  | true=>simp[Mp,AEk hc t k h.1,h.2]
  | false=>simp[Mp,uX hc l _ h.2,h.1]
end
end
mutual
theorem uY:∀(b:Ty),pl b=true->∀i∈vis b,oA (·==i) b=true
 | .mk k n j ts,h,i,hi=>by
  rw[vis] at hi;rw[oA];cases b5:(k==5) with
  | true=>rw[b5] at hi; simp at hi; simp[hi]
  | false=>
   cases b2:(k==2) with
   | true=>
    rw[pl,b5,b2] at h;rw[b5,b2] at hi;simp only[AG,AN,Hq] at h hi;simp[j0 ts h i hi]
   | false=>
    have hc:VV (.mk k n j ts)=true:=by grind[pl]
    have:=fM _ hc
    grind[vis]
theorem j0:∀(l:List Ty),X5 l=true->∀i∈Ec l,VU (·==i) l=true
 | [],_,i,hi=>by cases hi
 | t::l,h,i,hi=>by
  simp only[X5,AE] at h;rw[Ec,CG] at hi;rw[VU,Dk];rcases hi with hi|hi
  .exact .inl (uY t h.1 i hi)
  .exact .inr (j0 l h.2 i hi)
end
mutual
theorem Va:∀(b:Ty),bd b=true->∀i∈vis b,i∈Ai b\/oI (·==i) b=true
 | .mk k n j ts,h,i,hi=>by
  cases b2:(k==2) with
  | true=>
   grind[pl,bd,oI,uY]
  | false=>
   rw[vis] at hi;rw[Ai,oI];cases b5:(k==5) with
   | true=>grind
   | false=>
    cases b3:(k==3) with
    | true=>
     rw[bd,b5,b2,b3] at h;rw[b5,b2,b3] at hi;simp only[AG,AN,G6] at h hi;have:=Sv ts h i hi
     grind
    | false=>
     grind
theorem Sv:∀(l:List Ty),Mp l=true->∀i∈Ec l,i∈Bp l\/Ph (·==i) l=true
 | [],_,i,hi=>by cases hi
 | t::l,h,i,hi=>by
  simp only[Mp,AE] at h;rw[Ec,CG] at hi;rw[Bp,CG,Ph,Dk];rcases hi with hi|hi
  .rcases Va t h.1 i hi with h' | h'
   all_goals grind
  .rcases Sv l h.2 i hi with h' | h'
   all_goals grind
end
mutual
theorem uZ (p:Int->Bool):∀(b:Ty),oI p b=true->∃i∈vis b,p i=true
 | .mk k n j ts,h=>by
  rw[oI] at h;cases b2:(k==2) with
  | true=>
   rw[b2] at h;simp only[AN] at h;exact ua p _ h
  | false=>
   rw[b2] at h;simp only[AG,AE] at h;have h3:k=3:=by grind
   subst h3;rw[vis];simpa using j4 p ts h.2
theorem j4 (p:Int->Bool):∀(l:List Ty),Ph p l=true->∃i∈Ec l,p i=true
 | [],h=>by cases h
 | t::l,h=>by
  rw[Ph,Dk] at h;rw[Ec];rcases h with h|h
  .obtain⟨i,h1,h2⟩:=uZ p t h
   grind
  .obtain⟨i,h1,h2⟩:=j4 p l h
   grind
theorem ua (p:Int->Bool):∀(b:Ty),oA p b=true->∃i∈vis b,p i=true
 | .mk k n j ts,h=>by
  rw[oA] at h;rw[vis];cases b5:(k==5) with
  | true=>
   grind
  | false=>
   rw[b5] at h;simp only[AG,AE] at h;simpa[h.1] using j5 p ts h.2
theorem j5 (p:Int->Bool):∀(l:List Ty),VU p l=true->∃i∈Ec l,p i=true
 | [],h=>by cases h
 | t::l,h=>by
  rw[VU,Dk] at h;rw[Ec];rcases h with h|h
  .obtain⟨i,h1,h2⟩:=ua p t h
   grind
  .obtain⟨i,h1,h2⟩:=j5 p l h
   grind
end
mutual
def inst (σ:List Nat) (u:Nat):Ty->Ty
 | .mk k n i ts=>bif k==5 then(bif decide ((u:Int)<=i) then(match σ[(i-u).toNat]? with
  | some v=>ph v
  | none=>.mk k n i ts) else .mk k n i ts) else .mk k n i (Da σ u k 0 ts)
def Da (σ:List Nat) (u:Nat) (k:Int) (j:Nat):List Ty->List Ty
 | []=>[]
 | t::l=>inst σ (u+Ea k j) t::Da σ u k (j+1) l
end
theorem D8 {u:Nat} {k i:Int} {n:List UInt8} {ts:List Ty} (h:Co u (.mk k n i ts)=true) (h5:k≠5):D7 u k 0 ts=true:=by grind[Co]
theorem Lx {u:Nat} {i:Int} {n:List UInt8} {ts:List Ty} (h:Co u (.mk 5 n i ts)=true):i<u:=by grind[Co]
theorem I5 {n:List UInt8} {i:Int} {ts:List Ty} (h:valid (.mk 5 n i ts)=true):n=[]/\ts=[]/\0<=i:=by grind[valid,root,shape]
mutual
theorem Iv (σ:List Nat):∀(t:Ty) (u:Nat),valid t=true->Co u t=true->inst σ u t=t
 | .mk k n i ts,u,hv,hc=>by
  rw[inst]
  by_cases h5:k=5
  .subst h5
   have:=Lx hc
   grind
  .have b5:(k==5)=false:=by grind
   simp only[valid,AE] at hv;rw[b5];simp only[AG];rw[Z2 σ ts u k 0 hv.2 (D8 hc h5)]
theorem Z2 (σ:List Nat):∀(l:List Ty) (u:Nat) (k:Int) (j:Nat),BS l=true->D7 u k j l=true->Da σ u k j l=l
 | [],_,_,_,_,_=>rfl
 | t::l,u,k,j,hv,hc=>by
  simp only[BS,AE] at hv;simp only[D7,AE] at hc;rw[Da,Iv σ t _ hv.1 hc.1,Z2 σ l u k (j+1) hv.2 hc.2]
end
mutual
theorem JR (v:Nat) (σ:List Nat):∀(t:Ty) (u:Nat),valid t=true->Co (u+1+σ.length) t=true->sub v u (inst σ (u+1) t)=inst (v::σ) u t
 | .mk k n i ts,u,hv,hc=>by
  rw[inst,inst]
  by_cases h5:k=5
  .subst h5
   have hi:=Lx hc;obtain⟨rfl,rfl,h0⟩:=I5 hv;simp only[C7,AN]
   by_cases hu:(u:Int)+1<=i
   .have h1:((u+1:Nat):Int)<=i:=by omega
    have h2:(u:Int)<=i:=by omega
    rw[Ap h1,Ap h2];simp only[AN];have e:(i-(u:Int)).toNat=(i-((u+1:Nat):Int)).toNat+1:=by omega
    rw[e,Hp];obtain⟨w,hw⟩:∃w,σ[(i-((u+1:Nat):Int)).toNat]?=some w:=⟨_,Ak (by omega)⟩
    simp_all[sub,J9]
   grind[sub]
  .have b5:(k==5)=false:=by grind
   simp only[valid,AE] at hv;rw[b5];simp only[AG];rw[sub,b5];simp only[AG];rw[Vb v σ ts u k 0 hv.2 (D8 hc h5)]
theorem Vb (v:Nat) (σ:List Nat):∀(l:List Ty) (u:Nat) (k:Int) (j:Nat),BS l=true->D7 (u+1+σ.length) k j l=true->J9 v u k j (Da σ (u+1) k j l)=Da (v::σ) u k j l
 | [],_,_,_,_,_=>rfl
 | t::l,u,k,j,hv,hc=>by
  simp only[BS,AE] at hv;simp only[D7,AE] at hc;rw[Da,J9,Da];have e:u+1+Ea k j=u+Ea k j+1:=by omega
  rw[e,JR v σ t (u+Ea k j) hv.1 (by grind),Vb v σ l u k (j+1) hv.2 hc.2]
end
theorem Ql {n:List UInt8} {i:Int} {ts:List Ty} (h:valid (.mk 2 n i ts)=true):Fk ts=true:=by grind[valid,root,shape]
mutual
theorem NP (σ:List Nat):∀(t:Ty),valid t=true->plain t=true->Co σ.length t=true->pl t=true/\inst σ 0 t=tr (λi=>σ.getD i.toNat 0) t
 | .mk k n i ts,hv,hp,hc=>by
  by_cases h5:k=5
  .subst h5
   obtain⟨rfl,rfl,h0⟩:=I5 hv;have hi:=Lx hc
   grind[pl,inst,CM]
  .have b5:(k==5)=false:=by grind
   by_cases h2:k=2
   .subst h2
    have KT:=Ql hv;simp only[valid,AE] at hv;obtain⟨q1,q2⟩:=Qm σ ts 2 (by decide) 0 hv.2 KT (D8 hc (by decide))
    grind[pl,inst,CM]
   grind[plain,VV,pl,Iv,MX]
theorem Qm (σ:List Nat):∀(l:List Ty) (k:Int),k≠6->∀(j:Nat),BS l=true->Fk l=true->D7 σ.length k j l=true->X5 l=true/\Da σ 0 k j l=Su (λi=>σ.getD i.toNat 0) l
 | [],_,_,_,_,_,_=>⟨rfl,rfl⟩
 | t::l,k,h6,j,hv,hp,hc=>by
  simp only[BS,AE] at hv;simp only[Fk,AE] at hp;have b6:(k==6)=false:=by grind
  have hb:Ea k j=0:=by simp[Ea,b6]
  simp only[D7,AE,hb,GY] at hc;obtain⟨q1,q2⟩:=NP σ t hv.1 hp.1 hc.1;obtain⟨r1,r2⟩:=Qm σ l k h6 (j+1) hv.2 hp.2 hc.2;refine⟨by grind[X5],?_⟩;rw[Da,hb,GY,q2,r2];rfl
end
mutual
theorem Pm (u:Nat):∀(t:Ty),valid t=true->Co u t=true->∀i∈vis t,0<=i/\i<u
 | .mk k n j ts,hv,hc,i,hi=>by
  rw[vis] at hi
  by_cases h5:k=5
  .subst h5
   obtain⟨rfl,rfl,h0⟩:=I5 hv;have:=Lx hc
   grind
  .have b5:(k==5)=false:=by grind
   rw[b5] at hi;cases b:(k==2||k==3) with
   | false=>grind
   | true=>
    rw[b] at hi;simp only[AG,AN] at hi;simp only[valid,AE] at hv;exact Sw u ts k (by grind) 0 hv.2 (D8 hc h5) i hi
theorem Sw (u:Nat):∀(l:List Ty) (k:Int),k≠6->∀(j:Nat),BS l=true->D7 u k j l=true->∀i∈Ec l,0<=i/\i<u
 | [],_,_,_,_,_,i,hi=>by cases hi
 | t::l,k,h6,j,hv,hc,i,hi=>by
  simp only[BS,AE] at hv;have b6:(k==6)=false:=by grind
  have hb:Ea k j=0:=by simp[Ea,b6]
  simp only[D7,AE,hb,GY] at hc;rw[Ec,CG] at hi;rcases hi with hi|hi
  .exact Pm u t hv.1 hc.1 i hi
  .exact Sw u l k h6 (j+1) hv.2 hc.2 i hi
end
end Go.Proofs.YtpgfpakdnijngaaGreatDoor
