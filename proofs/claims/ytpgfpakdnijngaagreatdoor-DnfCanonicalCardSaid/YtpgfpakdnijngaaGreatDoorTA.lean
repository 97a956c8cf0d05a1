/-
  Terms ts plain data; their size and depth.
-/
import Derived.Test.YtpgfpakdnijngaaGreatDoorW1
import Derived.Test.YtpgfpakdnijngaaGreatDoorWpH
set_option linter.all false
namespace Go.Proofs.YtpgfpakdnijngaaGreatDoor
open Go.Tel
attribute [local simp] Bw B6 KS KT AO C1 GC wO setCells CR EG DQ Cu BD alive Cb Fi Hs jo Ay DC BV GL DY D0 qY oO okB qZ qa qb qc qd fK qe qf qg qh qi qj qm qo qp qt qu okF qv qw qx qy rC U2 rD RJ RK RL RM rE rF rG rH rI rJ rK rL rM rN Gu rO oP rP rQ rR rS rT rU rV rW rX rY Cm g0 g1 xI xL xM xF xG xC lf Y4 Y5
inductive Ty where
 | mk (kind:Int) (name:List UInt8) (index:Int) (args:List Ty)
mutual
def Aa:Ty->List PV
 | .mk k n i ts=>[.sc (.int .i64 k),.sc (.string ⟨n.toArray⟩),.sc (.int .i64 i),.list (AP ts)]
def AP:List Ty->List (List PV)
 | []=>[]
 | v::vs=>Aa v::AP vs
end
theorem HD:∀l,AP l=l.map Aa
 | []=>by rfl
 | v::vs=>by simp[AP,HD vs]
theorem Ad (v:Ty):(Aa v).length=4:=by cases v; rfl
theorem AR (l:List Ty):(AP l).length=l.length:=by simp[HD]
theorem BJ {l:List Ty} {i:Nat} {a:Ty} (h:l[i]?=some a):(AP l)[i]?=some (Aa a):=by grind[HD]
def A5 (v:Ty) (x:AV):Prop:=match v with
 | .mk k n i ts=>∃a,x=.agg [AA k,SS n,AA i,a]/\Av a (AP ts)
theorem A5.Bu (v:Ty):A5 v (.agg ((Aa v).map .pv)):=by
 cases v with
 | mk k n s es=>exact⟨_,by rfl,.list _⟩
theorem drop_cons {α:Type} {l:List α} {i:Nat} {a:α} (h:l[i]?=some a):l.drop i=a::l.drop (i+1):=by grind[List.drop_eq_getElem_cons]
mutual
def size:Ty->Nat
 | .mk _ _ _ ts=>AQ ts+1
def AQ:List Ty->Nat
 | []=>0
 | a::l=>size a+AQ l
end
mutual
def depth:Ty->Nat
 | .mk _ _ _ ts=>CE ts+1
def CE:List Ty->Nat
 | []=>0
 | a::l=>max (depth a) (CE l)
end
theorem size_pos (t:Ty):0<size t:=by cases t; simp[size]
theorem Bk:∀l:List Ty,l.length<=AQ l
 | []=>by simp
 | a::l=>by
  have:=size_pos a;have:=Bk l
  grind[AQ]
mutual
theorem Sw:∀t:Ty,depth t<=size t
 | .mk _ _ _ ts=>by
  have:=Vj ts
  grind[depth,size]
theorem Vj:∀l:List Ty,CE l<=AQ l
 | []=>by simp[CE]
 | a::l=>by
  have:=Sw a;have:=Vj l
  grind[CE,AQ]
end
theorem GM:∀{l:List Ty} {a:Ty},a∈l->size a<=AQ l
 | [],_,h=>by cases h
 | b::l,a,h=>by
  simp only[AQ];rcases Az.1 h with rfl|h
  .omega
  .have:=GM h; omega
section
variable {R:Nat->Option (List PV)}
theorem oQ {ts:List Ty} {a:AV} (ha:Av a (AP ts)) (hl:AQ ts<2 ^ 60) (ih:∀t∈ts,AL (env R) 84 [.agg ((Aa t).map .pv)] λr=>r=AA (size t)) {Post:AV->Prop} :
  ∀(j i c:Nat) (s:AM),i+j=ts.length->c+AQ (ts.drop i)<2 ^ 61->Post (AA ((c+AQ (ts.drop i):Nat):Int))->jq R 0 0 0 (AA c) a (AA ts.length) (AA i) s (QP Post):=by
 have U3:=Bk ts;intro j
 induction j with
 | zero=>
  intro i c s hi hc hP;refine ADp ?_;have h1:¬ ((i:Int)<ts.length):=by omega
  simp[h1];refine ANE ?_
  simp_all[QP,AQ]
 | succ j Et=>
  intro i c s hi hc hP;refine ADp ?_;have h1:((i:Int)<ts.length):=by omega
  obtain⟨t,ht⟩:∃t,ts[i]?=some t:=⟨_,Ap (by omega)⟩;have hd:=drop_cons ht;rw[hd] at hP hc;simp only[AQ] at hP hc;simp[h1];refine ANF ?_;refine BO ha (row:=Aa t) (by omega) (by grind[BJ]) (Ad t) (by omega) ?_;have e3:=ih t (BA ht);have e4:size t<=AQ ts:=GM (BA ht);obtain⟨k,n,x,es⟩:=t;simp only[Aa,Bz,Ci] at e3;simp[Aa,Rw,Sx,Rx,Sy];refine AG e3 ?_;rintro v rfl;simp only[Cb,xI];refine⟨⟨AZ,AZ⟩,B9 (by omega) (by omega) (ANG ?_)⟩;simp only[Cb,xI];refine⟨⟨AZ,AZ⟩,B9 (by omega) (by omega) ?_⟩;have:=Et (i+1) (c+size (.mk k n x es)) ⟨s.bs++[[AA k,SS n,AA x,.pv (.list (AP es))]],s.ts⟩ (by omega) (by omega) (by grind)
  grind
mutual
theorem Pu:∀(t:Ty),size t<2 ^ 60->∀(x:AV),A5 t x->AL (env R) 84 [x] λr=>r=AA (size t)
 | .mk k n i ts,h,x,hx=>by
  obtain⟨a,rfl,ha⟩:=hx;simp only[size] at h;have ih:=Sz ts (by omega);refine e84 (u0:=.agg [AA k,SS n,AA i,a]) (by simp[ha.close]) (ANH ?_);simp[ha.ok,ha.BN,AR];refine oQ ha (by omega) ih ts.length 0 1 _ (by omega) (by grind) ?_
  grind[size]
theorem Sz:∀(l:List Ty),AQ l<2 ^ 60->∀t∈l,AL (env R) 84 [.agg ((Aa t).map .pv)] λr=>r=AA (size t)
 | [],_,_,h=>by cases h
 | e::l,ho,a,h=>by
  simp only[AQ] at ho;rcases Az.1 h with h' | h'
  .rw[h']
   exact Pu e (by omega) _ (A5.Bu e)
  .exact Sz l (by omega) a h'
end
end
section
variable {R:Nat->Option (List PV)}
theorem fL {k i:Int} {n:List UInt8} {ts:List Ty} {a:AV} (ha:Av a (AP ts)) (hl:AQ ts<2 ^ 60) (ih:∀t∈ts,AL (env R) 71 [.agg ((Aa t).map .pv)] λr=>r=AA (size t)) {Post:AV->Prop} :
  ∀(j q c:Nat),q+j=ts.length->c+AQ (ts.drop q)<2 ^ 61->Post (AA ((c+AQ (ts.drop q):Nat):Int))->jr R 0 0 0 (.ptr 0 0) (AA c) (AA q) ⟨[[AA k,SS n,AA i,a]],[]⟩ (QP Post):=by
 have U3:=Bk ts;intro j
 induction j with
 | zero=>
  intro q c hi hc hP;refine ADq ?_;have h1:¬ ((q:Int)<ts.length):=by omega
  simp[ha.BN,AR,h1];refine ANI ?_
  simp_all[QP,AQ]
 | succ j Et=>
  intro q c hi hc hP;refine ADq ?_;have h1:((q:Int)<ts.length):=by omega
  obtain⟨t,ht⟩:∃t,ts[q]?=some t:=⟨_,Ap (by omega)⟩;have hd:=drop_cons ht;rw[hd] at hP hc;simp only[AQ] at hP hc;simp[ha.BN,AR,h1];refine ANJ ?_;simp;refine BO ha (row:=Aa t) (by omega) (by grind[BJ]) (Ad t) (by omega) ?_;have e3:=ih t (BA ht);have e4:size t<=AQ ts:=GM (BA ht);obtain⟨k,n,x,es⟩:=t;simp only[Aa,Bz,Ci] at e3;simp[Aa];refine AG e3 ?_;rintro v rfl;simp only[Cb,xI];refine⟨⟨AZ,AZ⟩,B9 (by omega) (by omega) (ANK ?_)⟩;simp only[Cb,xI];refine⟨⟨AZ,AZ⟩,B9 (by omega) (by omega) ?_⟩;have:=Et (q+1) (c+size (.mk k n x es)) (by omega) (by omega) (by simpa[XM] using hP);simpa using this
mutual
theorem Nj:∀(t:Ty),size t<2 ^ 60->∀(x:AV),A5 t x->AL (env R) 71 [x] λr=>r=AA (size t)
 | .mk k n i ts,h,x,hx=>by
  obtain⟨a,rfl,ha⟩:=hx;simp only[size] at h;have ih:=Qs ts (by omega);refine e71 (u0:=.agg [AA k,SS n,AA i,a]) (by simp[ha.close]) (ANL ?_);simp[ha.ok];refine fL ha (by omega) ih ts.length 0 1 (by omega) (by grind) ?_
  grind[size]
theorem Qs:∀(l:List Ty),AQ l<2 ^ 60->∀t∈l,AL (env R) 71 [.agg ((Aa t).map .pv)] λr=>r=AA (size t)
 | [],_,_,h=>by cases h
 | e::l,ho,a,h=>by
  simp only[AQ] at ho;rcases Az.1 h with h' | h'
  .rw[h']
   exact Nj e (by omega) _ (A5.Bu e)
  .exact Qs l (by omega) a h'
end
theorem fM {ts:List Ty} {a:AV} (ha:Av a (AP ts)) (hl:AQ ts<2 ^ 60) (ih:∀t∈ts,AL (env R) 85 [.agg ((Aa t).map .pv)] λr=>r=AA (depth t)) {Post:AV->Prop} :
  ∀(j i c:Nat) (s:AM),i+j=ts.length->c<2 ^ 60->Post (AA ((max c (CE (ts.drop i))+1:Nat):Int))->js R 0 0 0 (AA c) a (AA ts.length) (AA i) s (QP Post):=by
 have U3:=Bk ts;intro j
 induction j with
 | zero=>
  intro i c s hi hc hP;refine ADr ?_;have h1:¬ ((i:Int)<ts.length):=by omega
  simp[h1];refine ANM ?_;have h2:ts.drop i=[]:=Cj (by omega);rw[h2] at hP;simp only[CE,Nat.max_zero] at hP;simp only[Cb,xI];refine⟨⟨AZ,AZ⟩,B9 (by omega) (by omega) ?_⟩;exact⟨_,Gu,by grind⟩
 | succ j Et=>
  intro i c s hi hc hP;refine ADr ?_;have h1:((i:Int)<ts.length):=by omega
  obtain⟨t,ht⟩:∃t,ts[i]?=some t:=⟨_,Ap (by omega)⟩;have hd:=drop_cons ht;rw[hd] at hP;simp only[CE] at hP;simp[h1];refine ANN ?_;refine BO ha (row:=Aa t) (by omega) (by grind[BJ]) (Ad t) (by omega) ?_;have e3:=ih t (BA ht);have e4:size t<=AQ ts:=GM (BA ht);have e5:=Sw t;obtain⟨k,n,x,es⟩:=t;simp only[Aa,Bz,Ci] at e3;simp[Aa,Rw,Sx,Rx,Sy];refine AG e3 ?_;rintro v rfl;refine Vk (x:=.tmp 13) (y:=.tmp 15) (t:=#[3,3]) (by rfl) rfl rfl (ANO ?_);simp only[Cb,xI];refine⟨⟨AZ,AZ⟩,B9 (by omega) (by omega) ?_⟩;have:=Et (i+1) (max c (depth (.mk k n x es))) ⟨s.bs++[[AA k,SS n,AA x,.pv (.list (AP es))]],s.ts⟩ (by omega) (by omega) (by grind)
  grind
mutual
theorem S0:∀(t:Ty),size t<2 ^ 60->∀(x:AV),A5 t x->AL (env R) 85 [x] λr=>r=AA (depth t)
 | .mk k n i ts,h,x,hx=>by
  obtain⟨a,rfl,ha⟩:=hx;simp only[size] at h;have ih:=Qt ts (by omega);refine e85 (u0:=.agg [AA k,SS n,AA i,a]) (by simp[ha.close]) (ANP ?_);simp[ha.ok,ha.BN,AR];refine fM ha (by omega) ih ts.length 0 0 _ (by omega) (by omega) ?_;rfl
theorem Qt:∀(l:List Ty),AQ l<2 ^ 60->∀t∈l,AL (env R) 85 [.agg ((Aa t).map .pv)] λr=>r=AA (depth t)
 | [],_,_,h=>by cases h
 | e::l,ho,a,h=>by
  simp only[AQ] at ho;rcases Az.1 h with h' | h'
  .rw[h']
   exact S0 e (by omega) _ (A5.Bu e)
  .exact Qt l (by omega) a h'
end
theorem Z3 {k i:Int} {n:List UInt8} {ts:List Ty} {a:AV} (ha:Av a (AP ts)) (hl:AQ ts<2 ^ 60) (ih:∀t∈ts,AL (env R) 72 [.agg ((Aa t).map .pv)] λr=>r=AA (depth t)) {Post:AV->Prop} :
  ∀(j q c:Nat),q+j=ts.length->c<2 ^ 60->Post (AA ((max c (CE (ts.drop q))+1:Nat):Int))->jt R 0 0 0 (.ptr 0 0) (AA c) (AA q) ⟨[[AA k,SS n,AA i,a]],[]⟩ (QP Post):=by
 have U3:=Bk ts;intro j
 induction j with
 | zero=>
  intro q c hi hc hP;refine ADs ?_;have h1:¬ ((q:Int)<ts.length):=by omega
  simp[ha.BN,AR,h1];refine ANQ ?_;have h2:ts.drop q=[]:=Cj (by omega);rw[h2] at hP;simp only[CE,Nat.max_zero] at hP;simp only[Cb,xI];refine⟨⟨AZ,AZ⟩,B9 (by omega) (by omega) ?_⟩;exact⟨_,Gu,by grind⟩
 | succ j Et=>
  intro q c hi hc hP;refine ADs ?_;have h1:((q:Int)<ts.length):=by omega
  obtain⟨t,ht⟩:∃t,ts[q]?=some t:=⟨_,Ap (by omega)⟩;have hd:=drop_cons ht;rw[hd] at hP;simp only[CE] at hP;simp[ha.BN,AR,h1];refine ANR ?_;simp;refine BO ha (row:=Aa t) (by omega) (by grind[BJ]) (Ad t) (by omega) ?_;have e3:=ih t (BA ht);have e4:size t<=AQ ts:=GM (BA ht);have e5:=Sw t;obtain⟨k,n,x,es⟩:=t;simp only[Aa,Bz,Ci] at e3;simp[Aa];refine AG e3 ?_;rintro v rfl;refine Vk (x:=.tmp 12) (y:=.tmp 18) (t:=#[3,3]) (by rfl) rfl rfl (ANS ?_);simp only[Cb,xI];refine⟨⟨AZ,AZ⟩,B9 (by omega) (by omega) ?_⟩;have:=Et (q+1) (max c (depth (.mk k n x es))) (by omega) (by omega) (by grind)
  grind
mutual
theorem Qu:∀(t:Ty),size t<2 ^ 60->∀(x:AV),A5 t x->AL (env R) 72 [x] λr=>r=AA (depth t)
 | .mk k n i ts,h,x,hx=>by
  obtain⟨a,rfl,ha⟩:=hx;simp only[size] at h;have ih:=Od ts (by omega);refine e72 (u0:=.agg [AA k,SS n,AA i,a]) (by simp[ha.close]) (ANT ?_);simp[ha.ok];refine Z3 ha (by omega) ih ts.length 0 0 (by omega) (by omega) ?_;rfl
theorem Od:∀(l:List Ty),AQ l<2 ^ 60->∀t∈l,AL (env R) 72 [.agg ((Aa t).map .pv)] λr=>r=AA (depth t)
 | [],_,_,h=>by cases h
 | e::l,ho,a,h=>by
  simp only[AQ] at ho;rcases Az.1 h with h' | h'
  .rw[h']
   exact Qu e (by omega) _ (A5.Bu e)
  .exact Od l (by omega) a h'
end
end
def EW (k:Int) (j:Nat):Nat:=bif k==6&&j==1 then 1 else 0
mutual
def BW (u:Nat):Ty->Bool
 | .mk k _ i ts=>bif k==5&&decide ((u:Int)<=i) then false else C7 u k 0 ts
def C7 (u:Nat) (k:Int) (j:Nat):List Ty->Bool
 | []=>true
 | t::l=>BW (u+EW k j) t&&C7 u k (j+1) l
end
mutual
theorem Z6:∀t:Ty,PY (Aa t) (Aa t)=true
 | .mk k n i ts=>by simp[Aa,PY,PX,F5,Ht,Dw ts]
theorem Dw:∀l:List Ty,Jg (AP l) (AP l)=true
 | []=>by rfl
 | t::l=>by simp[AP,Jg,Z6 t,Dw l]
end
theorem Pv (k:Int) (j:Nat):EW k j<=1:=by grind[EW]
section
variable {R:Nat->Option (List PV)}
theorem K8 {k i:Int} {n:List UInt8} {a:AV} {rows:List (List PV)} (ha:Av a rows) (j:Nat):AL (env R) 119 [.agg [AA k,SS n,AA i,a],AA j] λr=>r=AA (EW k j):=by
 refine AUN (u0:=.agg [AA k,SS n,AA i,a]) (u1:=AA j) (by simp[ha.close]) (AH6 ?_);have h2:(((j:Int))==1)=(j==1):=by grind
 cases h1:(k==6) with
 | false=>
  simp[-beq_iff_eq,ha.ok,h1];refine th ?_;simp[*,QP,EW]
 | true=>
  cases h3:(j==1) with
  | false=>
   rw[h3] at h2;simp[-beq_iff_eq,ha.ok,h1,h2];refine th ?_;simp[*,QP,EW]
  | true=>
   rw[h3] at h2;simp[-beq_iff_eq,QP,QI,ha.ok,h1,h2,EW,h3]
theorem U4 {k i:Int} {n:List UInt8} {a:AV} {rows:List (List PV)} (ha:Av a rows) (j:Nat):AL (env R) 151 [.agg [AA k,SS n,AA i,a],AA j] λr=>r=AA (EW k j):=by
 refine AUO (u0:=.agg [AA k,SS n,AA i,a]) (u1:=AA j) (by simp[ha.close]) (AH7 ?_);have h2:(((j:Int))==1)=(j==1):=by grind
 cases h1:(k==6) with
 | false=>
  simp[-beq_iff_eq,ha.ok,h1];refine tj ?_;simp[*,QP,EW]
 | true=>
  cases h3:(j==1) with
  | false=>
   rw[h3] at h2;simp[-beq_iff_eq,ha.ok,h1,h2];refine tj ?_;simp[*,QP,EW]
  | true=>
   rw[h3] at h2;simp[-beq_iff_eq,QP,QI,ha.ok,h1,h2,EW,h3]
theorem Z7 {k i:Int} {n:List UInt8} {ts:List Ty} {a:AV} {u:Nat} (ha:Av a (AP ts)) (hl:AQ ts<2 ^ 60) (hu:u<2 ^ 60)
  (ih:∀t∈ts,∀v,v<=u+1->AL (env R) 141 [.agg ((Aa t).map .pv),AA v] λr=>r=BB (BW v t)) {Post:AV->Prop} :
  ∀(j q:Nat) (m:List (List AV)),q+j=ts.length->Post (BB (C7 u k q (ts.drop q)))->YA R 0 0 0 (AA u) (.ptr 0 0) a (AA ts.length) (AA q) ⟨[AA k,SS n,AA i,a]::m,[]⟩ (QP Post):=by
 have U3:=Bk ts;intro j
 induction j with
 | zero=>
  intro q m hi hP;refine tq ?_;have h1:¬ ((q:Int)<ts.length):=by omega
  simp[h1];refine AH8 ?_
  simp_all[QP,C7]
 | succ j Et=>
  intro q m hi hP;refine tq ?_;have h1:((q:Int)<ts.length):=by omega
  obtain⟨t,ht⟩:∃t,ts[q]?=some t:=⟨_,Ap (by omega)⟩;have hd:=drop_cons ht;rw[hd] at hP;simp only[C7] at hP;simp[h1];refine AH9 ?_;refine BO ha (row:=Aa t) (by omega) (by grind[BJ]) (Ad t) (by omega) ?_;have hb:=Pv k q;have e3:=ih t (BA ht) (u+EW k q) (by omega);obtain⟨k',n',x,es⟩:=t;simp only[Aa,Bz,Ci] at e3;simp[Aa,Rw,Sx,Rx,Sy];refine AG (K8 ha q) ?_;rintro v rfl;simp only[Cb,xI];refine⟨⟨AZ,AZ⟩,B9 (by omega) (by omega) ?_⟩;have ec:(u:Int)+(EW k q:Int)=((u+EW k q:Nat):Int):=by omega
  rw[ec];refine AG e3 ?_;rintro v rfl;cases hc:BW (u+EW k q) (.mk k' n' x es) with
  | false=>
   rw[hc] at hP;simp[QP,QI,CQ,Kz,PX,F5,Ht,Dw]
   grind
  | true=>
   rw[hc] at hP;simp[CQ,Kz,PX,F5,Ht,Dw];refine AIA ?_;simp only[Cb,xI];refine⟨⟨AZ,AZ⟩,B9 (by omega) (by omega) ?_⟩;have:=Et (q+1) (m++[[AA k',SS n',AA x,.pv (.list (AP es))]]) (by omega) (by simpa using hP);simpa using this
mutual
theorem L6:∀(t:Ty),size t<2 ^ 60->∀(u:Nat),u+size t<2 ^ 60->∀(x:AV),A5 t x->AL (env R) 141 [x,AA u] λr=>r=BB (BW u t)
 | .mk k n i ts,h,u,hu,x,hx=>by
  obtain⟨a,rfl,ha⟩:=hx;simp only[size] at h hu;have ih:=Oe ts (by omega) (u+1) (by omega)
  suffices H:∀Post:AV->Prop,Post (BB (BW u (.mk k n i ts)))->fN R 0 0 0 (.agg [AA k,SS n,AA i,a]) (AA u) ⟨[],[]⟩ (QP Post) from
   AUP (u0:=.agg [AA k,SS n,AA i,a]) (u1:=AA u) (by simp[ha.close]) (H _ rfl)
  intro Post GN;refine AIB ?_;simp only[BW] at GN
  have go:Post (BB (C7 u k 0 ts))->fO R 0 0 0 (AA u) (.ptr 0 0) ⟨[[AA k,SS n,AA i,a]],[]⟩ (QP Post):=by
   intro hP;refine AIC ?_;simp[ha.BN,AR];exact Z7 (m:=[]) ha (by omega) (by omega) ih ts.length 0 (by omega) (by grind)
  cases h1:(k==5) with
  | false=>
   rw[h1] at GN;simp[-beq_iff_eq,ha.ok,h1]
   grind
  | true=>
   rw[h1] at GN;cases h2:decide ((u:Int)<=i) with
   | true=>
    rw[h2] at GN;simpa[-beq_iff_eq,-decide_eq_true_eq,QP,QI,ha.ok,h1,h2] using GN
   | false=>
    rw[h2] at GN;simp[-beq_iff_eq,-decide_eq_false_iff_not,ha.ok,h1,h2]
    grind
theorem Oe:∀(l:List Ty),AQ l<2 ^ 60->∀(w:Nat),w+AQ l<2 ^ 60->∀t∈l,∀v,v<=w->AL (env R) 141 [.agg ((Aa t).map .pv),AA v] λr=>r=BB (BW v t)
 | [],_,_,_,_,h=>by cases h
 | e::l,ho,w,hw,a,h=>by
  simp only[AQ] at ho hw;rcases Az.1 h with h' | h'
  .rw[h']
   exact λv hv=>L6 e (by omega) v (by omega) _ (A5.Bu e)
  .exact Oe l (by omega) w (by omega) a h'
end
end
theorem Qv {l:List Int} {i:Nat} {n:Int} (h:l[i]?=some n):(AY l)[i]?=some [.sc (.int .i64 n)]:=by grind[AY]
theorem uA {a:AV} {ts:List Ty} (h:Av a (AP ts)):CQ a a=true:=by
 rcases h with rfl|rfl <;> simp[CQ,PX,Dw]
theorem K9:∀l:List Int,Jg (AY l) (AY l)=true
 | []=>by rfl
 | t::l=>by
  have:=K9 l
  grind[AY,Jg,PY,PX,F5]
section
variable {R:Nat->Option (List PV)}
theorem Z8 {l:List Int} {x:AV} (hx:Av x (AY l)) (hl:l.length<2 ^ 40) (v:Int) {Post:AV->Prop} (hP:∀r m,Av r (AY m)->m≠[]->m.length<=l.length+1->Post r) (q:Nat) (hq:q<=l.length) :
  fP R 0 0 0 x (AA v) (AA q) ⟨[],[]⟩ (QP Post):=by
 refine AID ?_;have hlen:(AY l).length=l.length:=CS l;have hall:((AY l).all λr=>r.length==1)=true:=by grind[EH]
 have slc:∀(lo hi:Option AV) (a b:Nat) (s:AM) (K:AV->Prop),FX 0 lo=some a->FX l.length hi=some b->a<=b->b<=l.length->K (.pv (.list (((AY l).take b).drop a)))->YB s 1 x lo hi none K:=by
  intro lo hi a b s K h1 h2 h3 h4 hK;have hr:=hx.rowsOf;rcases hx with rfl|rfl
  .simp only[YB,hr,wO,hlen]
   exact⟨a,b,h1,h2,⟨h3,h4,hall⟩,hK⟩
  .simp only[YB,hr,wO,hlen]
   exact⟨a,b,h1,h2,⟨h3,h4,hall⟩,hK⟩
 have hq1:FX 0 (some (AA q))=some q:=by rfl
 have hq2:FX l.length (some (AA q))=some q:=by rfl
 have e0:((AY l).take q).drop 0=AY (l.take q):=by simp[*,AY]
 have e1:((AY l).take l.length).drop q=AY (l.drop q):=by grind[AY,List.map_drop]
 simp[Dc,Fz,GC,wO,Cm,CD];refine slc none (some (AA q)) 0 q _ _ rfl hq2 (by omega) hq ?_;rw[e0];have hL:∀(m:List Int),m.length=(AY m).length:=λm=>(CS m).symm
 refine Px (ts:=[]) (x:=[]) (rows:=[]) (m:=AY (l.take q)) (.inl rfl) (by simp) (by simp) EH (by omega) (ER (.inl (.list _)) EH) Nk (by grind) (by grind) ?_;intro a1 x1 ha1;simp[Dc,Fz,GC,wO,Cm,CD,setCells];refine Px (ts:=[]) (m:=AY [v]) ha1 (by simp) (by grind) EH (by omega) (ER (.inl (.AB _)) EH) Nk (by grind) (by grind) ?_;intro a2 x2 S1;refine slc (some (AA q)) none q l.length _ _ hq1 rfl hq (by omega) ?_;rw[e1];have e2:[]++AY (l.take q)++AY [v]=AY (l.take q++[v]):=by simp[AY]
 rw[e2] at S1;refine Px (ts:=[]) (m:=AY (l.drop q)) S1 (by simp) EH EH (by omega) (ER (.inl (.list _)) EH) Nk (by grind) (by grind) ?_;intro a3 x3 ha3;have e3:AY (l.take q++[v])++AY (l.drop q)=AY (l.take q++[v]++l.drop q):=by simp[AY]
 rw[e3] at ha3;refine⟨?_,?_,?_⟩
 .refine slc (some (AA q)) none q l.length _ _ hq1 rfl hq (by omega) ?_
  grind[CQ,PX,K9]
 .refine slc (some (AA q)) none q l.length _ _ hq1 rfl hq (by omega) ?_
  grind[CQ,PX,K9]
 .obtain⟨v',h1,h2⟩:=ha3.A9.closed ([]:List (List AV)) 0
  exact⟨v',h1,hP _ _ h2 (by simp) (by grind)⟩
theorem Z9 {l:List Int} {x:AV} (hx:Av x (AY l)) (hl:l.length<2 ^ 40) (v:Int) {Post:AV->Prop} (hP:∀r m,Av r (AY m)->m≠[]->m.length<=l.length+1->Post r) (q:Nat) (hq:q<=l.length) :
  fQ R 0 0 0 x (AA v) (AA q) ⟨[],[]⟩ (QP Post):=by
 refine AIE ?_;have hlen:(AY l).length=l.length:=CS l
 by_cases h:q<l.length
 .have h1:((q:Int)<l.length):=by omega
  obtain⟨t,ht⟩:∃t,l[q]?=some t:=⟨_,Ap (by omega)⟩;simp[hx.BN,hlen,h1];refine BO hx (row:=[.sc (.int .i64 t)]) (by omega) (by grind[Qv]) rfl (by omega) ?_;simp;refine⟨λ_=>?_,λ_=>Z8 hx hl v hP q hq⟩;simp[QP,QI,hx.close]
  grind
 .have h1:¬ ((q:Int)<l.length):=by omega
  simp[hx.BN,hlen,h1]
  grind[Z8]
theorem oS {l:List Int} {x:AV} (hx:Av x (AY l)) (hl:l.length<2 ^ 40) (v:Int) {Post:AV->Prop} (hP:∀r m,Av r (AY m)->m≠[]->m.length<=l.length+1->Post r) :
  ∀(j q:Nat),q+j=l.length->YC R 0 0 0 x (AA v) (AA q) ⟨[],[]⟩ (QP Post):=by
 have hlen:(AY l).length=l.length:=CS l;intro j
 induction j with
 | zero=>
  intro q hq;refine uB ?_;have h1:¬ ((q:Int)<l.length):=by omega
  simp[hx.BN,hlen,h1]
  grind[Z9]
 | succ j ih=>
  intro q hq;refine uB ?_;have h1:((q:Int)<l.length):=by omega
  obtain⟨t,ht⟩:∃t,l[q]?=some t:=⟨_,Ap (by omega)⟩;simp[hx.BN,hlen,h1];refine BO hx (row:=[.sc (.int .i64 t)]) (by omega) (by simp[*,Qv]) rfl (by omega) ?_;simp;refine⟨λ_=>?_,λ_=>Z9 hx hl v hP q (by omega)⟩;refine AIF ?_;simp only[Cb,xI];refine⟨⟨AZ,AZ⟩,B9 (by omega) (by omega) ?_⟩;have:=ih (q+1) (by omega)
  grind
theorem S2 {l:List Int} {x:AV} (hx:Av x (AY l)) (hl:l.length<2 ^ 40) (v:Int):AL (env R) 150 [x,AA v] λr=>∃m,Av r (AY m)/\m≠[]/\m.length<=l.length+1:=by
 refine AUQ (u0:=x) (u1:=AA v) (by simp[hx.close]) (AIH ?_);exact oS hx hl v (λr m h1 h2 h3=>⟨m,h1,h2,h3⟩) l.length 0 (by omega)
theorem Py {k i:Int} {n:List UInt8} {ts:List Ty} {a:AV} {u:Nat} (ha:Av a (AP ts)) (hl:AQ ts<2 ^ 39) (hu:u<2 ^ 60)
  (ih:∀t∈ts,∀v,v<=u+1->∀(l:List Int) (y:AV),Av y (AY l)->l.length+size t<2 ^ 40 ->
   AL (env R) 126 [.agg ((Aa t).map .pv),AA v,y] λr=>∃m,Av r (AY m)/\(m=[]<->l=[]/\BW v t=true)/\m.length<=l.length+size t) {Post:AV->Prop} :
  ∀(j q:Nat) (l:List Int) (y:AV),Av y (AY l)->l.length+AQ (ts.drop q)<2 ^ 40->q+j=ts.length ->
   (∀r m,Av r (AY m)->(m=[]<->l=[]/\C7 u k q (ts.drop q)=true)->m.length<=l.length+AQ (ts.drop q)->Post r) ->
   YD R 0 0 0 (AA u) y (.ptr 0 0) (AA q) ⟨[[AA k,SS n,AA i,a]],[]⟩ (QP Post):=by
 have U3:=Bk ts;intro j
 induction j with
 | zero=>
  intro q l y hy hc hi hP;refine uC ?_;have h1:¬ ((q:Int)<ts.length):=by omega
  simp[ha.BN,AR,h1];refine AII ?_;have h2:ts.drop q=[]:=Cj (by omega);rw[h2] at hP;exact⟨y,hy.close _ _ _,hP y l hy (by simp[C7]) (by simp)⟩
 | succ j Et=>
  intro q l y hy hc hi hP;refine uC ?_;have h1:((q:Int)<ts.length):=by omega
  obtain⟨t,ht⟩:∃t,ts[q]?=some t:=⟨_,Ap (by omega)⟩;have hd:=drop_cons ht;rw[hd] at hP hc;simp only[C7,AQ] at hP hc;simp[ha.BN,AR,h1];refine AIJ ?_;simp;refine BO ha (row:=Aa t) (by omega) (by grind[BJ]) (Ad t) (by omega) ?_;have hb:=Pv k q;have e3:=ih t (BA ht) (u+EW k q) (by omega) l y hy (by omega);have hrow:=BJ ht;obtain⟨k',n',x,es⟩:=t;simp only[Aa,Bz,Ci] at e3 hrow;simp[Aa];refine AG (U4 ha q) ?_;rintro v rfl;simp only[Cb,xI];refine⟨⟨AZ,AZ⟩,B9 (by omega) (by omega) ?_⟩;have ec:(u:Int)+(EW k q:Int)=((u+EW k q:Nat):Int):=by omega
  rw[ec];refine AG e3 ?_;rintro v ⟨m,hm,hmi,hml⟩;simp[CQ,uA ha,Kz,PX,PY,F5,Ht,Dw];refine⟨BO ha (by omega) (by assumption) (by simp) (by omega) (by simp[*,CQ,PX,PY,F5,Ht,Dw]),AIK ?_⟩;simp only[Cb,xI];refine⟨⟨AZ,AZ⟩,B9 (by omega) (by omega) ?_⟩;have:=Et (q+1) m v hm (by omega) (by omega) (by grind)
  grind
mutual
theorem free_spec:∀(t:Ty),size t<2 ^ 39->∀(u:Nat),u+size t<2 ^ 60->∀(x:AV),A5 t x->∀(l:List Int) (y:AV),Av y (AY l)->l.length+size t<2 ^ 40 ->
  AL (env R) 126 [x,AA u,y] λr=>∃m,Av r (AY m)/\(m=[]<->l=[]/\BW u t=true)/\m.length<=l.length+size t
 | .mk k n i ts,h,u,hu,x,hx,l,y,hy,hl=>by
  obtain⟨a,rfl,ha⟩:=hx;simp only[size] at h hu hl;have ih:=S3 ts (by omega) (u+1) (by omega)
  suffices H:∀Post:AV->Prop,(∀r m,Av r (AY m)->(m=[]<->l=[]/\BW u (.mk k n i ts)=true)->m.length<=l.length+size (.mk k n i ts)->Post r)->fT R 0 0 0 (.agg [AA k,SS n,AA i,a]) (AA u) y ⟨[],[]⟩ (QP Post) from
   AUR (u0:=.agg [AA k,SS n,AA i,a]) (u1:=AA u) (u2:=y) (by simp[ha.close,hy.close]) (H _ λr m h1 h2 h3=>⟨m,h1,h2,h3⟩)
  intro Post GN;refine AIL ?_;simp only[BW,size] at GN;cases h1:(k==5) with
  | false=>
   rw[h1] at GN;simp[-beq_iff_eq,ha.ok,h1];refine fU ?_;exact Py ha (by omega) (by omega) ih ts.length 0 l y hy (by grind) (by omega) (λr m a b c=>GN r m a (by grind) (by grind))
  | true=>
   rw[h1] at GN;cases h2:decide ((u:Int)<=i) with
   | true=>
    rw[h2] at GN;simp[-beq_iff_eq,-decide_eq_true_eq,ha.ok,h1,h2,fV];refine AG (S2 hy (by omega) _) ?_;rintro v ⟨m,hm,hne,hml⟩;refine fU ?_;refine Py ha (by omega) (by omega) ih ts.length 0 m v hm (by grind) (by omega) (λr m' a b c=>GN r m' a ?_ (by grind))
    grind
   | false=>
    rw[h2] at GN;simp[-beq_iff_eq,-decide_eq_false_iff_not,ha.ok,h1,h2];refine fU ?_;exact Py ha (by omega) (by omega) ih ts.length 0 l y hy (by grind) (by omega) (λr m a b c=>GN r m a (by grind) (by grind))
theorem S3:∀(l:List Ty),AQ l<2 ^ 39->∀(w:Nat),w+AQ l<2 ^ 60->∀t∈l,∀v,v<=w->∀(z:List Int) (y:AV),Av y (AY z)->z.length+size t<2 ^ 40 ->
   AL (env R) 126 [.agg ((Aa t).map .pv),AA v,y] λr=>∃m,Av r (AY m)/\(m=[]<->z=[]/\BW v t=true)/\m.length<=z.length+size t
 | [],_,_,_,_,h=>by cases h
 | e::l,ho,w,hw,a,h=>by
  simp only[AQ] at ho hw;rcases Az.1 h with h' | h'
  .rw[h']
   exact λv hv z y hy hz=>free_spec e (by omega) v (by omega) _ (A5.Bu e) z y hy hz
  .exact S3 l (by omega) w (by omega) a h'
end
theorem Ld {t:Ty} (h:size t<2 ^ 38) {x:AV} (hx:A5 t x):AL (env R) 48 [x] λr=>r=BB (BW 0 t):=by
 obtain⟨k,n,i,ts⟩:=t;obtain⟨a,rfl,ha⟩:=hx;refine e48 (u0:=.agg [AA k,SS n,AA i,a]) (by simp[ha.close]) (ANU ?_);simp[ha.ok]
 have AUS:AL (env R) 96 [.agg [AA k,SS n,AA i,a]] λr=>∃m,Av r (AY m)/\(m=[]<->BW 0 (.mk k n i ts)=true):=by
  refine e96 (u0:=.agg [AA k,SS n,AA i,a]) (by simp[ha.close]) (ANV ?_);simp[ha.ok];refine AG (free_spec (.mk k n i ts) (by omega) 0 (by omega) _ ⟨a,rfl,ha⟩ [] (.AB []) (.AB []) (by grind)) ?_;rintro v ⟨m,hm,hmi,_⟩;exact⟨v,hm.close _ _ _,m,hm,by grind⟩
 refine AG AUS ?_;rintro v ⟨m,hm,hmi⟩;simp[QP,QI,hm.BN,CS];cases hc:BW 0 (.mk k n i ts) with
 | true=>
  grind
 | false=>
  simp[*]
end
mutual
def plain:Ty->Bool
 | .mk k n i ts=>k==5||BW 0 (.mk k n i ts)||(k==2&&D6 ts)
def D6:List Ty->Bool
 | []=>true
 | t::l=>plain t&&D6 l
end
section
variable {R:Nat->Option (List PV)}
theorem uD {f:FuncId} {g:Ty->Bool} {ts:List Ty} {y:AV} (hy:Av y (AP ts)) (hl:AQ ts<2 ^ 60) (hf:∀t∈ts,AL (env R) f [.agg ((Aa t).map .pv)] λr=>r=BB (g t)) {Post:AV->Prop} :
  ∀(j q:Nat),q+j=ts.length->(∀i:Int,decide (0<=i)=(ts.drop q).any g->Post (AA i))->Pz R 0 0 0 y (.func (.func f) [] []) (AA ts.length) (AA q) ⟨[],[]⟩ (QP Post):=by
 have U3:=Bk ts;intro j
 induction j with
 | zero=>
  intro q hi hP;refine P0 ?_;have h1:¬ ((q:Int)<ts.length):=by omega
  simp[h1];refine fW ?_
  simp_all[QP]
 | succ j Et=>
  intro q hi hP;refine P0 ?_;have h1:((q:Int)<ts.length):=by omega
  obtain⟨t,ht⟩:∃t,ts[q]?=some t:=⟨_,Ap (by omega)⟩;have hd:=drop_cons ht;rw[hd] at hP;simp[h1];refine fX ?_;refine BO hy (row:=Aa t) (by omega) (by simp[*,BJ]) (Ad t) (by omega) ?_;have e3:=hf t (BA ht);cases hg:g t with
  | true=>
   rw[hg] at e3;have:=hP q (by grind);obtain⟨k',n',x,es⟩:=t;simp only[Aa,Bz,Ci] at e3;simp[Aa];refine AG e3 ?_;simp[*,QP]
  | false=>
   rw[hg] at e3;simp only[OD,hg,GU] at hP;obtain⟨k',n',x,es⟩:=t;simp only[Aa,Bz,Ci] at e3;simp[Aa];refine AG e3 ?_;rintro v rfl;simp;refine fY ?_;simp only[Cb,xI];refine⟨⟨AZ,AZ⟩,B9 (by omega) (by omega) ?_⟩;have:=Et (q+1) (by omega) hP;simpa using this
theorem NH {f:FuncId} {g:Ty->Bool} {ts:List Ty} {y:AV} (hy:Av y (AP ts)) (hl:AQ ts<2 ^ 60) (hf:∀t∈ts,AL (env R) f [.agg ((Aa t).map .pv)] λr=>r=BB (g t)) :
  AL (env R) 94 [y,.func (.func f) [] []] λr=>r=BB (ts.any g):=by
 have hi:AL (env R) 125 [y,.func (.func f) [] []] λr=>∃i:Int,r=AA i/\decide (0<=i)=ts.any g:=by
  refine ANW (by simp[Bb,hy.Ep,Ep]) (YE ?_);simp[hy.BN,AR];exact uD hy hl hf ts.length 0 (by omega) (λi h=>⟨i,rfl,by grind⟩)
 refine e94 (by simp[Bb,hy.Ep,Ep]) (ju ?_);refine AG hi ?_;rintro v ⟨i,rfl,h⟩;simp only[Cb,xI];refine⟨⟨AZ,AZ⟩,_,Gu,?_⟩;rw[<-h]
mutual
theorem YF:∀(t:Ty),size t<2 ^ 38->∀(x:AV),A5 t x->AL (env R) 161 [x] λr=>r=BB (plain t)
 | .mk k n i ts,h,x,hx=>by
  obtain⟨a,rfl,ha⟩:=hx;have hs:=h;simp only[size] at h;have ih:=L7 k n i ts (by omega) a ha;have hc:AL (env R) 141 [.agg [AA k,SS n,AA i,a],AA 0] λr=>r=BB (BW 0 (.mk k n i ts)):=L6 (.mk k n i ts) (by omega) 0 (by omega) _ ⟨a,rfl,ha⟩
  refine AUT (u0:=.agg [AA k,SS n,AA i,a]) (by simp[ha.close]) (AIM ?_);cases h1:(k==5) with
  | true=>simp[-beq_iff_eq,QP,QI,ha.ok,h1,plain]
  | false=>
   simp[-beq_iff_eq,ha.ok,h1];refine AG hc ?_;rintro v rfl;cases h2:BW 0 (.mk k n i ts) with
   | true=>simp[*,QP,plain]
   | false=>
    cases h3:(k==2) with
    | false=>simp[*,QP,plain]
    | true=>
     have e2:k=2:=by grind
     subst e2;simp;refine AG ih ?_;simp[*,QP,plain]
theorem L7 (k:Int) (n:List UInt8) (i:Int):∀(ts:List Ty),AQ ts<2 ^ 38->∀(a:AV),Av a (AP ts)->AL (env R) 140 [.agg [AA k,SS n,AA i,a]] λr=>r=BB (D6 ts)
 | ts,h,a,ha=>by
  have ih:=Qw ts h;refine AUU (u0:=.agg [AA k,SS n,AA i,a]) (by simp[ha.close]) (AIN ?_);simp[ha.ok]
  have hf:∀t∈ts,AL (env R) 160 [.agg ((Aa t).map .pv)] λr=>r=BB (!plain t):=by
   intro t ht;have e:=ih t ht;refine AUV (by cases t; rfl) (AIO ?_);obtain⟨k',n',x,es⟩:=t;simp only[Aa,Bz,Ci] at e;simp[Aa];refine AG e ?_;simp[*,QP]
  refine AG (NH ha (by omega) hf) ?_;rintro v rfl
  have:(!ts.any λt=>!plain t)=D6 ts:=by
   clear ih hf ha h
   induction ts with
   | nil=>rfl
   | cons t l ih=>grind[D6]
  simp[*,QP]
theorem Qw:∀(l:List Ty),AQ l<2 ^ 38->∀t∈l,AL (env R) 161 [.agg ((Aa t).map .pv)] λr=>r=BB (plain t)
 | [],_,_,h=>by cases h
 | e::l,ho,a,h=>by
  simp only[AQ] at ho;rcases Az.1 h with h' | h'
  .rw[h']
   exact YF e (by omega) _ (A5.Bu e)
  .exact Qw l (by omega) a h'
end
theorem aA {k i:Int} {n:List UInt8} {ts:List Ty} {a:AV} (ha:Av a (AP ts)) (hl:AQ ts<2 ^ 38) (ih:∀t∈ts,AL (env R) 110 [.agg ((Aa t).map .pv)] λr=>r=BB (plain t)) {Post:AV->Prop} :
  ∀(j q:Nat),q+j=ts.length->Post (BB (k==2&&D6 (ts.drop q)))->YG R 0 0 0 (.ptr 0 0) (AA q) ⟨[[AA k,SS n,AA i,a]],[]⟩ (QP Post):=by
 have U3:=Bk ts;intro j
 induction j with
 | zero=>
  intro q hi hP;refine uE ?_;have h1:¬ ((q:Int)<ts.length):=by omega
  simp[ha.BN,AR,h1];refine AIP ?_
  simp_all[QP,D6]
 | succ j Et=>
  intro q hi hP;refine uE ?_;have h1:((q:Int)<ts.length):=by omega
  obtain⟨t,ht⟩:∃t,ts[q]?=some t:=⟨_,Ap (by omega)⟩;have hd:=drop_cons ht;rw[hd] at hP;simp only[D6] at hP;simp[ha.BN,AR,h1];refine AIQ ?_;simp;refine BO ha (row:=Aa t) (by omega) (by simp[*,BJ]) (Ad t) (by omega) ?_;have e3:=ih t (BA ht);have hr:=Ad t;cases hg:plain t with
  | true=>
   rw[hg] at e3 hP;obtain⟨k',n',x,es⟩:=t;simp only[Aa,Bz,Ci] at e3;simp[Aa];refine AG e3 ?_;rintro v rfl;simp;refine AIR ?_;simp only[Cb,xI];refine⟨⟨AZ,AZ⟩,B9 (by omega) (by omega) ?_⟩;have:=Et (q+1) (by omega) (by simpa using hP);simpa using this
  | false=>
   rw[hg] at e3 hP;obtain⟨k',n',x,es⟩:=t;simp only[Aa,Bz,Ci] at e3;simp[Aa];refine AG e3 ?_
   simp_all[QP]
mutual
theorem aB:∀(t:Ty),size t<2 ^ 38->∀(x:AV),A5 t x->AL (env R) 110 [x] λr=>r=BB (plain t)
 | .mk k n i ts,h,x,hx=>by
  obtain⟨a,rfl,ha⟩:=hx;have hs:=h;simp only[size] at h;have ih:=LA ts (by omega);have hc:AL (env R) 48 [.agg [AA k,SS n,AA i,a]] λr=>r=BB (BW 0 (.mk k n i ts)):=Ld hs ⟨a,rfl,ha⟩
  suffices H:∀Post:AV->Prop,Post (BB (plain (.mk k n i ts)))->fZ R 0 0 0 (.agg [AA k,SS n,AA i,a]) ⟨[],[]⟩ (QP Post) from
   AUW (u0:=.agg [AA k,SS n,AA i,a]) (by simp[ha.close]) (H _ rfl)
  intro Post GN;refine AIS ?_;simp only[plain] at GN;cases h1:(k==5) with
  | true=>
   rw[h1] at GN;simpa[-beq_iff_eq,QP,QI,ha.ok,h1] using GN
  | false=>
   rw[h1] at GN;simp[-beq_iff_eq,ha.ok,h1];refine AG hc ?_;rintro v rfl;cases h2:BW 0 (.mk k n i ts) with
   | true=>
    simp_all[QP]
   | false=>
    rw[h2] at GN;simp[-beq_iff_eq];refine AIT ?_;exact aA ha (by omega) ih ts.length 0 (by omega) (by grind)
theorem LA:∀(l:List Ty),AQ l<2 ^ 38->∀t∈l,AL (env R) 110 [.agg ((Aa t).map .pv)] λr=>r=BB (plain t)
 | [],_,_,h=>by cases h
 | e::l,ho,a,h=>by
  simp only[AQ] at ho;rcases Az.1 h with h' | h'
  .rw[h']
   exact aB e (by omega) _ (A5.Bu e)
  .exact LA l (by omega) a h'
end
end
def isLet (n:Int):Bool:=(decide (97<=n)&&decide (n<=122))||(decide (65<=n)&&decide (n<=90))
def S4 (n:Int):Bool:=decide (48<=n)&&decide (n<=57)
def P1 (n:Int):Bool:=isLet n||S4 n||n==95||n==45
abbrev BY (n:Int):AV:=.pv (.sc (.int .u8 n))
def L8 (l:List UInt8):Bool:=l != []&&decide (l.length<=24)&&(match l with|[]=>false|c::_=>isLet c.toNat)&&l.all λc=>!((c.toNat:Int)==45)&&P1 c.toNat
def Ll:List (List UInt8):=[[65,110,121],[78,101,118,101,114],[116,117,112,108,101],[117,110,105,111,110],[101,120,105,115,116,115]]
section
variable {R:Nat->Option (List PV)}
theorem Qx (n:Int):AL (env R) 155 [BY n] λr=>r=BB (isLet n):=by
 refine AUX rfl (AIU ?_)
 by_cases h1:97<=n <;> by_cases h2:n<=122 <;> by_cases h3:65<=n <;> by_cases h4:n<=90 <;> simp[QP,QI,isLet,h1,h2,h3,h4]
theorem Og (n:Int):AL (env R) 135 [BY n] λr=>r=BB (isLet n):=by
 refine AUY rfl (AIV ?_)
 by_cases h1:97<=n <;> by_cases h2:n<=122 <;> by_cases h3:65<=n <;> by_cases h4:n<=90 <;> simp[QP,QI,isLet,h1,h2,h3,h4]
theorem fc (n:Int):AL (env R) 173 [BY n] λr=>r=BB (S4 n):=by
 refine AUZ rfl (AIW ?_)
 by_cases h1:48<=n <;> by_cases h2:n<=57 <;> simp[QP,QI,S4,h1,h2]
theorem aC (n:Int):AL (env R) 154 [BY n] λr=>r=BB (S4 n):=by
 refine AUa rfl (AIX ?_)
 by_cases h1:48<=n <;> by_cases h2:n<=57 <;> simp[QP,QI,S4,h1,h2]
theorem U5 (n:Int):AL (env R) 158 [BY n] λr=>r=BB (P1 n):=by
 refine AUb rfl (AIY ?_);refine AG (Qx n) ?_;rintro v rfl;cases h1:isLet n with
 | true=>simp[QP,QI,P1,h1]
 | false=>
  simp;refine AG (fc n) ?_;rintro v rfl;cases h2:S4 n with
  | true=>simp[QP,QI,P1,h2]
  | false=>cases h3:(n==95) <;> cases h4:(n==45) <;> simp[-beq_iff_eq,-beq_eq_false_iff_ne,QP,QI,P1,h1,h2,h3,h4]
theorem S5 (n:Int):AL (env R) 136 [BY n] λr=>r=BB (P1 n):=by
 refine AUc rfl (AIZ ?_);refine AG (Og n) ?_;rintro v rfl;cases h1:isLet n with
 | true=>simp[QP,QI,P1,h1]
 | false=>
  simp;refine AG (aC n) ?_;rintro v rfl;cases h2:S4 n with
  | true=>simp[QP,QI,P1,h2]
  | false=>cases h3:(n==95) <;> cases h4:(n==45) <;> simp[-beq_iff_eq,-beq_eq_false_iff_ne,QP,QI,P1,h1,h2,h3,h4]
theorem S6 (n:Int):AL (env R) 157 [BY n] λr=>r=BB (!(n==45)&&P1 n):=by
 refine AUd rfl (AIa ?_);cases h:(n==45) with
 | true=>simp[-beq_iff_eq,-beq_eq_false_iff_ne,QP,QI,h,bne]
 | false=>
  simp[-beq_iff_eq,-beq_eq_false_iff_ne,h,bne];refine AG (U5 n) ?_;rintro v rfl;simp[-beq_iff_eq,-beq_eq_false_iff_ne,QP,QI]
theorem fe {f:FuncId} {g:Int->Bool} {l:List UInt8} (hl:l.length<2 ^ 60) (hf:∀n:Int,AL (env R) f [BY n] λr=>r=BB (g n)) {Post:AV->Prop} :
  ∀(j q:Nat),q+j=l.length->Post (BB ((l.drop q).all λc=>g c.toNat))->YH R 0 0 0 (SS l) (.func (.func f) [] []) (AA q) ⟨[],[]⟩ (QP Post):=by
 intro j
 induction j with
 | zero=>
  intro q hi hP;refine uF ?_;have h1:¬ ((q:Int)<l.length):=by omega
  simp[h1];refine AIb ?_;have h2:l.drop q=[]:=Cj (by omega);rw[h2] at hP;simpa[QP,QI] using hP
 | succ j Et=>
  intro q hi hP;refine uF ?_;have h1:((q:Int)<l.length):=by omega
  obtain⟨c,hc⟩:∃c,l[q]?=some c:=⟨_,Ap (by omega)⟩;rw[drop_cons hc] at hP;simp[h1];refine AIc ?_;refine⟨by omega,c,by simpa using hc,?_⟩;refine AG (hf c.toNat) ?_;rintro v rfl;cases hg:g c.toNat with
  | true=>
   rw[Ho,hg] at hP;simp;refine AId ?_;simp only[Cb,xI];refine⟨⟨AZ,AZ⟩,B9 (by omega) (by omega) ?_⟩;have:=Et (q+1) (by omega) (by simpa using hP);simpa using this
  | false=>
   rw[Ho,hg] at hP;simpa[QP,QI] using hP
theorem YI {l:List UInt8} (hl:l.length<2 ^ 60):AL (env R) 138 [SS l] λr=>r=BB (L8 l):=by
 have ev:AL (env R) 156 [SS l,.func (.func 157) [] []] λr=>r=BB (l.all λc=>!((c.toNat:Int)==45)&&P1 c.toNat):=by
  refine AUe (u0:=SS l) (u1:=.func (.func 157) [] []) (by simp) (AIe ?_);exact fe hl S6 l.length 0 (by omega) (by simp)
 refine AUf (u0:=SS l) (by simp) (AIf ?_);cases l with
 | nil=>simp[QP,QI,L8]
 | cons c l=>
  by_cases h1:(c::l).length<=24
  .have eC:(((c::l).length:Nat):Int)<=24:=by omega
   have fh:((l.length:Int)+1<=24):=by simpa using eC
   simp[fh,L9];refine AG (Qx c.toNat) ?_;rintro v rfl;cases h2:isLet c.toNat with
   | false=>simp[QP,QI,L8,h2]
   | true=>
    simp;refine AG ev ?_;rintro v rfl;have:l.length+1<=24:=by simpa using h1
    simp[QP,QI,L8,h2,this]
  .have fh:¬ ((l.length:Int)+1<=24):=by simp at h1; omega
   have:¬ (l.length+1<=24):=by simpa using h1
   simp[QP,QI,fh,L8,this]
theorem aD {l:List UInt8} (hl:l.length<2 ^ 60) {Post:AV->Prop} :
  ∀(j q:Nat),q+j=l.length->Post (BB ((l.drop q).all λc=>!((c.toNat:Int)==45)&&P1 c.toNat))->YJ R 0 0 0 (SS l) (AA q) ⟨[],[]⟩ (QP Post):=by
 intro j
 induction j with
 | zero=>
  intro q hi hP;refine uG ?_;have h1:¬ ((q:Int)<l.length):=by omega
  simp[h1];refine AIg ?_;have h2:l.drop q=[]:=Cj (by omega);rw[h2] at hP;simpa[QP,QI] using hP
 | succ j Et=>
  intro q hi hP;refine uG ?_;have h1:((q:Int)<l.length):=by omega
  obtain⟨c,hc⟩:∃c,l[q]?=some c:=⟨_,Ap (by omega)⟩;rw[drop_cons hc] at hP;simp[h1];refine AIh ?_;refine⟨by omega,c,by simpa using hc,?_⟩;refine AG (S5 c.toNat) ?_;rintro v rfl;cases hg:P1 c.toNat with
  | false=>
   rw[Ho,hg,XO,Ib] at hP;simpa[QP,QI] using hP
  | true=>
   rw[Ho,hg,Hp] at hP;simp;refine⟨by omega,c,by simpa using hc,?_⟩
   by_cases h45:((c.toNat:Int)=45)
   .have AIi:((c.toNat:Int)==45)=true:=by simpa using h45
    rw[AIi,N8,Ib] at hP;simp[QP,QI];exact⟨λ_=>hP,λh=>absurd h45 h⟩
   .have AIi:((c.toNat:Int)==45)=false:=by simpa using h45
    rw[AIi,OC,CU] at hP;simp;refine⟨λh=>absurd h h45,λ_=>AIj ?_⟩;simp only[Cb,xI];refine⟨⟨AZ,AZ⟩,B9 (by omega) (by omega) ?_⟩;have:=Et (q+1) (by omega) (by simpa using hP);simpa using this
theorem aE {l:List UInt8} (hl:l.length<2 ^ 60):AL (env R) 108 [SS l] λr=>r=BB (L8 l):=by
 refine AUg (u0:=SS l) (by simp) (AIk ?_);cases l with
 | nil=>simp[QP,QI,L8]
 | cons c l=>
  have h0:¬ ((l.length:Int)+1<1):=by omega
  by_cases h1:l.length+1<=24
  .have fh:¬ (24<(l.length:Int)+1):=by omega
   simp[h0,fh,L9];refine AG (Og c.toNat) ?_;rintro v rfl;cases h2:isLet c.toNat with
   | false=>simp[QP,QI,L8,h2]
   | true=>
    simp;refine AIl ?_;refine aD hl (c::l).length 0 (by omega) ?_;simp[L8,h2,h1]
  .have fh:(24<(l.length:Int)+1):=by omega
   simp[QP,QI,h0,fh,L8,h1]
theorem YK {l:List UInt8}:AL (env R) 109 [SS l] λr=>r=BB (Ll.contains l):=by
 refine AUh (u0:=SS l) (by simp) (AIm ?_)
 by_cases h1:l=[65,110,121]
 .subst h1; simp[QP,QI,Ll]
 by_cases h2:l=[78,101,118,101,114]
 .subst h2; simp[QP,QI,Ll]
 by_cases h3:l=[116,117,112,108,101]
 .subst h3; simp[QP,QI,Ll]
 by_cases h4:l=[117,110,105,111,110]
 .subst h4; simp[QP,QI,Ll]
 by_cases h5:l=[101,120,105,115,116,115]
 .subst h5; simp[QP,QI,Ll]
 have b1:(l==[65,110,121])=false:=by simpa using h1
 have b2:(l==[78,101,118,101,114])=false:=by simpa using h2
 have b3:(l==[116,117,112,108,101])=false:=by simpa using h3
 have b4:(l==[117,110,105,111,110])=false:=by simpa using h4
 have b5:(l==[101,120,105,115,116,115])=false:=by simpa using h5
 have b:Ll.contains l=false:=by simp[Ll,h1,h2,h3,h4,h5]
 simp[-beq_iff_eq,-beq_eq_false_iff_ne,-List.contains_eq_mem,QP,QI,b,b1,b2,b3,b4,b5]
def Ea (l:List (List UInt8)):List (List PV):=l.map λs=>[.sc (.string ⟨s.toArray⟩)]
theorem aF (l:List (List UInt8)):(Ea l).length=l.length:=by simp[Ea]
theorem aH {l:List (List UInt8)} {i:Nat} {n:List UInt8} (h:l[i]?=some n):(Ea l)[i]?=some [.sc (.string ⟨n.toArray⟩)]:=by simp[Ea,h]
theorem fk {l:List (List UInt8)} {w:List UInt8} {y:AV} (hy:Av y (Ea l)) (hl:l.length<2 ^ 60) {Post:AV->Prop} :
  ∀(j q:Nat),q+j=l.length->(∀i:Int,decide (0<=i)=(l.drop q).contains w->Post (AA i))->YL R 0 0 0 y (SS w) (AA l.length) (AA q) ⟨[],[]⟩ (QP Post):=by
 intro j
 induction j with
 | zero=>
  intro q hi hP;refine uH ?_;have h1:¬ ((q:Int)<l.length):=by omega
  simp[h1];refine AIn ?_;have h2:l.drop q=[]:=Cj (by omega);rw[h2] at hP;have:=hP (-1) (by simp);simpa[QP,QI] using this
 | succ j Et=>
  intro q hi hP;refine uH ?_;have h1:((q:Int)<l.length):=by omega
  obtain⟨t,ht⟩:∃t,l[q]?=some t:=⟨_,Ap (by omega)⟩;rw[drop_cons ht] at hP;simp[h1];refine AIo ?_;refine BO hy (row:=[.sc (.string ⟨t.toArray⟩)]) (by omega) (by simpa using aH ht) rfl (by omega) ?_
  by_cases hw:w=t
  .subst hw
   have:=hP q (by simp);simpa[QP,QI] using this
  .simp[hw]
   refine AIp ?_;simp only[Cb,xI];refine⟨⟨AZ,AZ⟩,B9 (by omega) (by omega) ?_⟩;have:=Et (q+1) (by omega) (λi h=>hP i (by rw[h]; simp[hw]));simpa using this
theorem S7 {l:List (List UInt8)} {w:List UInt8} {y:AV} (hy:Av y (Ea l)) (hl:l.length<2 ^ 60):AL (env R) 139 [y,SS w] λr=>r=BB (l.contains w):=by
 have hi:AL (env R) 159 [y,SS w] λr=>∃i:Int,r=AA i/\decide (0<=i)=l.contains w:=by
  refine AUi (u0:=y) (u1:=SS w) (by simp[hy.close]) (AIq ?_);simp[hy.BN,aF];exact fk hy hl l.length 0 (by omega) (λi h=>⟨i,rfl,by simpa using h⟩)
 refine AUj (u0:=y) (u1:=SS w) (by simp[hy.close]) (AIr ?_);refine AG hi ?_;rintro v ⟨i,rfl,h⟩;simp only[Cb,xI];refine⟨⟨AZ,AZ⟩,_,Gu,?_⟩;rw[<-h]
end
def S8:List Ty->Bool
 | []=>false
 | t::_=>BW 0 t
def shape (k:Int) (n:List UInt8) (i:Int) (ts:List Ty):Bool:=
 bif k==0||k==1 then ts.length==0
 else bif k==2 then L8 n&&!Ll.contains n&&decide (ts.length<=6)&&D6 ts
 else bif k==3 then decide (ts.length<=6)
 else bif k==4 then decide (2<=ts.length)
 else bif k==5 then ts.length==0&&decide (0<=i)&&decide (i<=200)
 else bif k==6 then ts.length==2&&S8 ts
 else false
def root (k:Int) (n:List UInt8) (i:Int) (ts:List Ty):Bool:=(k==2||n==[])&&(k==5||i==0)&&shape k n i ts
mutual
def valid:Ty->Bool
 | .mk k n i ts=>root k n i ts&&Ar ts
def Ar:List Ty->Bool
 | []=>true
 | t::l=>valid t&&Ar l
end
def U2 (n:List UInt8):Prop:=n.length<2 ^ 60
mutual
def P3:Ty->Prop
 | .mk _ n _ ts=>U2 n/\RN ts
def RN:List Ty->Prop
 | []=>True
 | t::l=>P3 t/\RN l
end
section
variable {R:Nat->Option (List PV)}
theorem AIs:(env R).G 2=some (E6 Ll):=rfl
theorem oT:E6 Ll=[.list (Ea Ll)]:=rfl
section
variable {k i:Int} {n:List UInt8} {ts:List Ty} {a:AV} {Post:AV->Prop}
theorem sh0 (ha:Av a (AP ts)) (hP:Post (BB (ts.length==0))):J3 R 0 0 0 (.ptr 0 0) (AA k) (BB true) ⟨[[AA k,SS n,AA i,a]],[]⟩ (QP Post):=by
 refine Nl ⟨λ_=>?_,by simp⟩;have e:((ts.length:Int)==0)=(ts.length==0):=by grind
 simpa[-beq_iff_eq,-beq_eq_false_iff_ne,QP,QI,ha.BN,AR,e] using hP
theorem sh2 (ha:Av a (AP ts)) (hs:AQ ts<2 ^ 38) (hn:U2 n) (hP:Post (BB (L8 n&&!Ll.contains n&&decide (ts.length<=6)&&D6 ts))) :
  J3 R 0 0 0 (.ptr 0 0) (AA 2) (BB false) ⟨[[AA 2,SS n,AA i,a]],[]⟩ (QP Post):=by
 have hlen:=Bk ts;refine Nl ⟨by simp,λ_=>⟨⟨rfl,rfl⟩,⟨λ_=>?_,by simp⟩⟩⟩;simp only[Bw,B6,KS,KT,AO,C1,GC,wO,setCells,CR,EG,DQ,Cu,BD,alive,Cb,Fi,Hs,jo,Ay,DC,BV,GL,DY,D0,qY,oO,okB,qZ,qa,qb,qc,qd,fK,qe,qf,qg,qh,qi,qj,qm,qo,qp,qt,qu,okF,qv,qw,qx,qy,rC,U2,rD,RJ,RK,RL,RM,rE,rF,rG,rH,rI,rJ,rK,rL,rM,rN,Gu,rO,oP,rP,rQ,rR,rS,rT,rU,rV,rW,rX,rY,Cm,xI,xL,xM,xF,xG,g0,g1,lf];simp only[Ig,G8,CI,Cg,GR];refine⟨AZ,AG (YI hn) ?_⟩;rintro v rfl;cases c1:L8 n with
 | false=>
  rw[c1] at hP;simpa[QP,QI] using hP
 | true=>
  simp[AIs,oT];refine AG (S7 (.list _) (by simp[Ll])) ?_;rintro v rfl;cases c2:Ll.contains n with
  | true=>
   simp_all[QP]
  | false=>
   rw[c1,c2] at hP
   by_cases c3:ts.length<=6
   .have c3':((ts.length:Int)<=6):=by omega
    rw[Aq c3] at hP;simp[ha.BN,AR,c3'];refine AG (L7 2 n i ts hs a ha) ?_
    simp_all[QP]
   .have c3':¬ ((ts.length:Int)<=6):=by omega
    rw[BF c3] at hP;simpa[QP,QI,ha.BN,AR,c3'] using hP
theorem sh3 (ha:Av a (AP ts)) (hP:Post (BB (decide (ts.length<=6)))):J3 R 0 0 0 (.ptr 0 0) (AA 3) (BB false) ⟨[[AA 3,SS n,AA i,a]],[]⟩ (QP Post):=by
 refine Nl ⟨by simp,λ_=>⟨⟨rfl,rfl⟩,⟨by simp,λ_=>⟨⟨rfl,rfl⟩,⟨λ_=>?_,by simp⟩⟩⟩⟩⟩;have e:decide ((ts.length:Int)<=6)=decide (ts.length<=6):=by grind
 simpa[-decide_eq_true_eq,QP,QI,ha.BN,AR,e] using hP
theorem sh4 (ha:Av a (AP ts)) (hP:Post (BB (decide (2<=ts.length)))):J3 R 0 0 0 (.ptr 0 0) (AA 4) (BB false) ⟨[[AA 4,SS n,AA i,a]],[]⟩ (QP Post):=by
 refine Nl ⟨by simp,λ_=>⟨⟨rfl,rfl⟩,⟨by simp,λ_=>⟨⟨rfl,rfl⟩,⟨by simp,λ_=>⟨⟨rfl,rfl⟩,⟨λ_=>?_,by simp⟩⟩⟩⟩⟩⟩⟩;have e:decide (2<=(ts.length:Int))=decide (2<=ts.length):=by grind
 simpa[-decide_eq_true_eq,QP,QI,ha.BN,AR,e] using hP
theorem sh5 (ha:Av a (AP ts)) (hP:Post (BB (ts.length==0&&decide (0<=i)&&decide (i<=200)))):J3 R 0 0 0 (.ptr 0 0) (AA 5) (BB false) ⟨[[AA 5,SS n,AA i,a]],[]⟩ (QP Post):=by
 refine Nl ⟨by simp,λ_=>⟨⟨rfl,rfl⟩,⟨by simp,λ_=>⟨⟨rfl,rfl⟩,⟨by simp,λ_=>⟨⟨rfl,rfl⟩,⟨by simp,λ_=>⟨⟨rfl,rfl⟩,⟨λ_=>?_,by simp⟩⟩⟩⟩⟩⟩⟩⟩⟩;cases ts with
 | cons t l=>
  have c':¬ ((l.length:Int)+1=0):=by omega
  have b':((l.length:Int)+1==0)=false:=by rfl
  simpa[-beq_iff_eq,-beq_eq_false_iff_ne,QP,QI,ha.BN,AR,b'] using hP
 | nil=>
  by_cases c1:0<=i
  .by_cases c2:i<=200
   .simpa[QP,QI,ha.BN,AR,c1,c2] using hP
   .simpa[QP,QI,ha.BN,AR,c1,c2] using hP
  .simpa[QP,QI,ha.BN,AR,c1] using hP
theorem sh6 (ha:Av a (AP ts)) (hs:AQ ts<2 ^ 38) (hP:Post (BB (ts.length==2&&S8 ts))):J3 R 0 0 0 (.ptr 0 0) (AA 6) (BB false) ⟨[[AA 6,SS n,AA i,a]],[]⟩ (QP Post):=by
 refine Nl ⟨by simp,λ_=>⟨⟨rfl,rfl⟩,⟨by simp,λ_=>⟨⟨rfl,rfl⟩,⟨by simp,λ_=>⟨⟨rfl,rfl⟩,⟨by simp,λ_=>⟨⟨rfl,rfl⟩,⟨by simp,λ_=>⟨⟨rfl,rfl⟩,⟨λ_=>?_,by simp⟩⟩⟩⟩⟩⟩⟩⟩⟩⟩⟩
 by_cases c:ts.length=2
 .have c':((ts.length:Int)=2):=by omega
  obtain⟨t,l,rfl⟩:∃t l,ts=t::l:=by
   cases ts with
   | nil=>grind
   | cons t l=>simp
  simp only[AQ] at hs;have e3:AL (env R) 141 [.agg ((Aa t).map .pv),AA 0] λr=>r=BB (BW 0 t):=L6 t (by omega) 0 (by omega) _ (A5.Bu t)
  have hP':Post (BB (BW 0 t)):=by grind[S8]
  have c'':((l.length:Int)+1=2):=by grind
  simp[ha.BN,AR,c''];refine BO ha (row:=Aa t) (by omega) (by rfl) (Ad t) (by omega) ?_;obtain⟨k',n',x,es⟩:=t;simp only[Aa,Bz,Ci] at e3;simp[Aa];refine AG e3 ?_;simp[*,QP]
 .have c':¬ ((ts.length:Int)=2):=by omega
  have b:(ts.length==2)=false:=by grind
  rw[b] at hP;have b':((ts.length:Int)==2)=false:=by grind
  simpa[-beq_iff_eq,-beq_eq_false_iff_ne,QP,QI,ha.BN,AR,b'] using hP
theorem sh7 (h2:¬ k=2) (h3:¬ k=3) (h4:¬ k=4) (h5:¬ k=5) (h6:¬ k=6) (hP:Post (BB false)):J3 R 0 0 0 (.ptr 0 0) (AA k) (BB false) ⟨[[AA k,SS n,AA i,a]],[]⟩ (QP Post):=by
 refine Nl ⟨by simp,λ_=>⟨⟨rfl,rfl⟩,⟨by grind,λ_=>⟨⟨rfl,rfl⟩,⟨by grind,λ_=>⟨⟨rfl,rfl⟩,⟨by grind,λ_=>⟨⟨rfl,rfl⟩,⟨by grind,λ_=>⟨⟨rfl,rfl⟩,⟨by grind,λ_=>AIt ?_⟩⟩⟩⟩⟩⟩⟩⟩⟩⟩⟩;exact⟨_,Gu,hP⟩
theorem LB (ha:Av a (AP ts)) (hs:AQ ts<2 ^ 38) (hn:U2 n) (hP:Post (BB (shape k n i ts))):fq R 0 0 0 (.ptr 0 0) ⟨[[AA k,SS n,AA i,a]],[]⟩ (QP Post):=by
 refine AIu ?_
 by_cases h0:k=0
 .subst h0
  simp
  grind[sh0,shape]
 by_cases h1:k=1
 .subst h1
  simp
  grind[sh0,shape]
 have b0:(k==0)=false:=by grind
 have b1:(k==1)=false:=by grind
 simp[h0]
 grind[sh2,shape,sh3,sh4,sh5,sh6,sh7]
end
theorem S9 {k i:Int} {n:List UInt8} {ts:List Ty} {a:AV} (ha:Av a (AP ts)) (hs:AQ ts<2 ^ 38) (hn:U2 n):AL (env R) 116 [.agg [AA k,SS n,AA i,a]] λr=>r=BB (root k n i ts):=by
 suffices H:∀Post:AV->Prop,Post (BB (root k n i ts))->fu R 0 0 0 (.agg [AA k,SS n,AA i,a]) ⟨[],[]⟩ (QP Post) from
  AUk (u0:=.agg [AA k,SS n,AA i,a]) (by simp[ha.close]) (H _ rfl)
 intro Post hP;refine AIv ?_;unfold root at hP;cases b2:(k==2) with
 | true=>
  have e2:k=2:=by grind
  subst e2
  by_cases hi:i=0
  .subst hi
   simp[ha.ok]
   grind[LB]
  .have bi:(i==0)=false:=by grind
   rw[bi] at hP;simpa[QP,QI,ha.ok,hi,bne,bi] using hP
 | false=>
  have e2:¬ k=2:=by grind
  rw[b2] at hP
  by_cases hn0:n=[]
  .subst hn0
   cases b5:(k==5) with
   | true=>
    have e5:k=5:=by grind
    subst e5;simp[ha.ok]
    grind[LB]
   | false=>
    have e5:¬ k=5:=by grind
    rw[b5] at hP
    by_cases hi:i=0
    .subst hi
     simp[ha.ok,e2,e5,bne,b2,b5]
     grind[LB]
    .have bi:(i==0)=false:=by grind
     rw[bi] at hP;simpa[QP,QI,ha.ok,e2,e5,hi,bne,b2,b5,bi] using hP
  .have bn:(n==[])=false:=by grind
   rw[bn] at hP;simpa[QP,QI,ha.ok,e2,hn0,bne,b2,bn] using hP
end
def verdict (t:Ty):Int:=bif decide (200<size t)||decide (12<depth t) then 4 else bif valid t then 0 else 2
section
variable {R:Nat->Option (List PV)}
mutual
theorem Le:∀(t:Ty),size t<2 ^ 38->P3 t->∀(x:AV),A5 t x->AL (env R) 86 [x] λr=>r=BB (valid t)
 | .mk k n i ts,h,ho,x,hx=>by
  obtain⟨a,rfl,ha⟩:=hx;simp only[size] at h;simp only[P3] at ho;have ih:=KU ts (by omega) ho.2;refine e86 (u0:=.agg [AA k,SS n,AA i,a]) (by simp[ha.close]) (ANY ?_);simp[ha.ok];refine AG (S9 ha (by omega) ho.1) ?_;rintro v rfl;cases hr:root k n i ts with
  | false=>simp[*,QP,valid]
  | true=>
   have hf:∀t∈ts,AL (env R) 117 [.agg ((Aa t).map .pv)] λr=>r=BB (!valid t):=by
    intro t ht;have e:=ih t ht;refine AUl (by cases t; rfl) (AIw ?_);obtain⟨k',n',x,es⟩:=t;simp only[Aa,Bz,Ci] at e;simp[Aa];refine AG e ?_;simp[*,QP]
   simp;refine AG (NH ha (by omega) hf) ?_;rintro v rfl
   have:(!ts.any λt=>!valid t)=Ar ts:=by
    clear ih hf ha h hr ho
    induction ts with
    | nil=>rfl
    | cons t l ih=>grind[Ar]
   simp[*,QP,valid]
theorem KU:∀(l:List Ty),AQ l<2 ^ 38->RN l->∀t∈l,AL (env R) 86 [.agg ((Aa t).map .pv)] λr=>r=BB (valid t)
 | [],_,_,_,h=>by cases h
 | e::l,ho,hk,a,h=>by
  simp only[AQ] at ho;simp only[RN] at hk;rcases Az.1 h with h' | h'
  .rw[h']
   exact Le e (by omega) hk.1 _ (A5.Bu e)
  .exact KU l (by omega) hk.2 a h'
end
section
variable {k i:Int} {n:List UInt8} {ts:List Ty} {a:AV} {Post:AV->Prop}
theorem ABt (ha:Av a (AP ts)) (hl:AQ ts<2 ^ 38) (ih:∀t∈ts,AL (env R) 73 [.agg ((Aa t).map .pv)] λr=>r=BB (valid t)) :
  ∀(j q:Nat),q+j=ts.length->Post (BB (Ar (ts.drop q)))->jv R 0 0 0 (.ptr 0 0) (AA ts.length) (AA q) ⟨[[AA k,SS n,AA i,a]],[]⟩ (QP Post):=by
 have U3:=Bk ts;intro j
 induction j with
 | zero=>
  intro q hi hP;refine ADu ?_;have h1:¬ ((q:Int)<ts.length):=by omega
  simp[h1];refine ANZ ?_
  simp_all[QP,Ar]
 | succ j Et=>
  intro q hi hP;refine ADu ?_;have h1:((q:Int)<ts.length):=by omega
  obtain⟨t,ht⟩:∃t,ts[q]?=some t:=⟨_,Ap (by omega)⟩;have hd:=drop_cons ht;rw[hd] at hP;simp only[Ar] at hP;simp[h1];refine ANa ?_;simp;refine BO ha (row:=Aa t) (by omega) (by simp[*,BJ]) (Ad t) (by omega) ?_;have e3:=ih t (BA ht);cases hg:valid t with
  | true=>
   rw[hg] at e3 hP;obtain⟨k',n',x,es⟩:=t;simp only[Aa,Bz,Ci] at e3;simp[Aa];refine AG e3 ?_;rintro v rfl;simp;refine AIx ?_;simp only[Cb,xI];refine⟨⟨AZ,AZ⟩,B9 (by omega) (by omega) ?_⟩;have:=Et (q+1) (by omega) (by simpa using hP);simpa using this
  | false=>
   rw[hg] at e3 hP;obtain⟨k',n',x,es⟩:=t;simp only[Aa,Bz,Ci] at e3;simp[Aa];refine AG e3 ?_
   simp_all[QP]
theorem Ry (ha:Av a (AP ts)) (hl:AQ ts<2 ^ 38) (ih:∀t∈ts,AL (env R) 73 [.agg ((Aa t).map .pv)] λr=>r=BB (valid t)) (hP:Post (BB (Ar ts))) :
  Vl R 0 0 0 (.ptr 0 0) (AA ts.length) ⟨[[AA k,SS n,AA i,a]],[]⟩ (QP Post):=
 ANb (ABt ha hl ih ts.length 0 (by omega) (by grind))
theorem uI (ha:Av a (AP ts)) (hl:AQ ts<2 ^ 38) (ih:∀t∈ts,AL (env R) 73 [.agg ((Aa t).map .pv)] λr=>r=BB (valid t)) :
  ∀(j q:Nat),q+j=ts.length->Post (BB (D6 (ts.drop q)&&Ar ts))->jx R 0 0 0 (.ptr 0 0) (AA ts.length) (AA q) ⟨[[AA k,SS n,AA i,a]],[]⟩ (QP Post):=by
 have U3:=Bk ts;intro j
 induction j with
 | zero=>
  intro q hi hP;refine ADv ?_
  simp_all[Ry,D6]
 | succ j Et=>
  intro q hi hP;refine ADv ?_;have h1:((q:Int)<ts.length):=by omega
  obtain⟨t,ht⟩:∃t,ts[q]?=some t:=⟨_,Ap (by omega)⟩;have hd:=drop_cons ht;rw[hd] at hP;simp only[D6] at hP;simp[h1];refine ANc ?_;simp;refine BO ha (row:=Aa t) (by omega) (by simp[*,BJ]) (Ad t) (by omega) ?_;have e3:=LA (R:=R) ts hl t (BA ht);cases hg:plain t with
  | true=>
   rw[hg] at e3 hP;obtain⟨k',n',x,es⟩:=t;simp only[Aa,Bz,Ci] at e3;simp[Aa];refine AG e3 ?_;rintro v rfl;simp;refine AIy ?_;simp only[Cb,xI];refine⟨⟨AZ,AZ⟩,B9 (by omega) (by omega) ?_⟩;have:=Et (q+1) (by omega) (by simpa using hP);simpa using this
  | false=>
   rw[hg] at e3 hP;obtain⟨k',n',x,es⟩:=t;simp only[Aa,Bz,Ci] at e3;simp[Aa];refine AG e3 ?_
   simp_all[QP]
theorem wf0 (hP:Post (BB (ts.length==0&&Ar ts))):NI R 0 0 0 (.ptr 0 0) (AA ts.length) (AA k) (BB true) ⟨[[AA k,SS n,AA i,a]],[]⟩ (QP Post):=by
 refine TA ⟨λ_=>?_,by simp⟩;cases ts with
 | nil=>simp_all[QP,Ar]
 | cons t l=>
  have b:((l.length:Int)+1==0)=false:=by rfl
  simpa[-beq_iff_eq,-beq_eq_false_iff_ne,QP,QI,b] using hP
theorem wf5 (hP:Post (BB (ts.length==0&&decide (0<=i)&&decide (i<=200)&&Ar ts))):NI R 0 0 0 (.ptr 0 0) (AA ts.length) (AA 5) (BB false) ⟨[[AA 5,SS n,AA i,a]],[]⟩ (QP Post):=by
 refine TA ⟨by simp,λ_=>⟨⟨rfl,rfl⟩,⟨λ_=>?_,by simp⟩⟩⟩;cases ts with
 | cons t l=>
  have b:((l.length:Int)+1==0)=false:=by rfl
  simpa[-beq_iff_eq,-beq_eq_false_iff_ne,QP,QI,b] using hP
 | nil=>
  by_cases c1:0<=i
  .by_cases c2:i<=200
   .simp_all[QP,Ar]
   .simpa[QP,QI,c1,c2,Ar] using hP
  .simpa[QP,QI,c1,Ar] using hP
theorem wf2 (ha:Av a (AP ts)) (hl:AQ ts<2 ^ 38) (hn:U2 n) (ih:∀t∈ts,AL (env R) 73 [.agg ((Aa t).map .pv)] λr=>r=BB (valid t))
  (hP:Post (BB (L8 n&&!Ll.contains n&&decide (ts.length<=6)&&D6 ts&&Ar ts))):NI R 0 0 0 (.ptr 0 0) (AA ts.length) (AA 2) (BB false) ⟨[[AA 2,SS n,AA i,a]],[]⟩ (QP Post):=by
 refine TA ⟨by simp,λ_=>⟨⟨rfl,rfl⟩,⟨by simp,λ_=>⟨⟨rfl,rfl⟩,⟨λ_=>?_,by simp⟩⟩⟩⟩⟩;simp only[Bw,B6,KS,KT,AO,C1,GC,wO,setCells,CR,EG,DQ,Cu,BD,alive,Cb,Fi,Hs,jo,Ay,DC,BV,GL,DY,D0,qY,oO,okB,qZ,qa,qb,qc,qd,fK,qe,qf,qg,qh,qi,qj,qm,qo,qp,qt,qu,okF,qv,qw,qx,qy,rC,U2,rD,RJ,RK,RL,RM,rE,rF,rG,rH,rI,rJ,rK,rL,rM,rN,Gu,rO,oP,rP,rQ,rR,rS,rT,rU,rV,rW,rX,rY,Cm,xI,xL,xM,xF,xG,g0,g1,lf];simp only[Ig,G8,CI,Cg,GR];refine⟨AZ,AG (aE hn) ?_⟩;rintro v rfl;cases c1:L8 n with
 | false=>
  simp_all[QP]
 | true=>
  simp;refine AG YK ?_;rintro v rfl;cases c2:Ll.contains n with
  | true=>
   simp_all[QP]
  | false=>
   rw[c1,c2] at hP
   by_cases c3:ts.length<=6
   .have c3':¬ (6<(ts.length:Int)):=by omega
    rw[Aq c3] at hP;simp[c3'];exact ANd (uI ha hl ih ts.length 0 (by omega) (by grind))
   .have c3':(6<(ts.length:Int)):=by omega
    simp_all[QP]
theorem wf3 (ha:Av a (AP ts)) (hl:AQ ts<2 ^ 38) (ih:∀t∈ts,AL (env R) 73 [.agg ((Aa t).map .pv)] λr=>r=BB (valid t)) (hP:Post (BB (decide (ts.length<=6)&&Ar ts))) :
  NI R 0 0 0 (.ptr 0 0) (AA ts.length) (AA 3) (BB false) ⟨[[AA 3,SS n,AA i,a]],[]⟩ (QP Post):=by
 refine TA ⟨by simp,λ_=>⟨⟨rfl,rfl⟩,⟨by simp,λ_=>⟨⟨rfl,rfl⟩,⟨by simp,λ_=>⟨⟨rfl,rfl⟩,⟨λ_=>?_,by simp⟩⟩⟩⟩⟩⟩⟩
 by_cases c:ts.length<=6
 .have c':¬ (6<(ts.length:Int)):=by omega
  rw[Aq c] at hP;simp[c']
  grind[Ry]
 .have c':(6<(ts.length:Int)):=by omega
  simp_all[QP]
theorem wf4 (ha:Av a (AP ts)) (hl:AQ ts<2 ^ 38) (ih:∀t∈ts,AL (env R) 73 [.agg ((Aa t).map .pv)] λr=>r=BB (valid t)) (hP:Post (BB (decide (2<=ts.length)&&Ar ts))) :
  NI R 0 0 0 (.ptr 0 0) (AA ts.length) (AA 4) (BB false) ⟨[[AA 4,SS n,AA i,a]],[]⟩ (QP Post):=by
 refine TA ⟨by simp,λ_=>⟨⟨rfl,rfl⟩,⟨by simp,λ_=>⟨⟨rfl,rfl⟩,⟨by simp,λ_=>⟨⟨rfl,rfl⟩,⟨by simp,λ_=>⟨⟨rfl,rfl⟩,⟨λ_=>?_,by simp⟩⟩⟩⟩⟩⟩⟩⟩⟩
 by_cases c:2<=ts.length
 .have c':¬ ((ts.length:Int)<2):=by omega
  rw[Aq c] at hP;simp[c']
  grind[Ry]
 .have c':((ts.length:Int)<2):=by omega
  simp_all[QP]
theorem wf6 (ha:Av a (AP ts)) (hl:AQ ts<2 ^ 38) (ih:∀t∈ts,AL (env R) 73 [.agg ((Aa t).map .pv)] λr=>r=BB (valid t)) (hP:Post (BB (ts.length==2&&S8 ts&&Ar ts))) :
  NI R 0 0 0 (.ptr 0 0) (AA ts.length) (AA 6) (BB false) ⟨[[AA 6,SS n,AA i,a]],[]⟩ (QP Post):=by
 refine TA ⟨by simp,λ_=>⟨⟨rfl,rfl⟩,⟨by simp,λ_=>⟨⟨rfl,rfl⟩,⟨by simp,λ_=>⟨⟨rfl,rfl⟩,⟨by simp,λ_=>⟨⟨rfl,rfl⟩,⟨by simp,λ_=>⟨⟨rfl,rfl⟩,⟨λ_=>?_,by simp⟩⟩⟩⟩⟩⟩⟩⟩⟩⟩⟩
 by_cases c:ts.length=2
 .obtain⟨t,l,rfl⟩:∃t l,ts=t::l:=by
   cases ts with
   | nil=>grind
   | cons t l=>simp
  have hl':=hl;simp only[AQ] at hl';have e3:AL (env R) 48 [.agg ((Aa t).map .pv)] λr=>r=BB (BW 0 t):=Ld (by omega) (A5.Bu t)
  have hP':Post (BB (BW 0 t&&Ar (t::l))):=by
   rw[show(t::l).length==2 by grind] at hP;simpa[S8] using hP
  have b:(((t::l).length:Int) != 2)=false:=by
   rw[c]; rfl
  simp only[Bw,B6,KS,KT,AO,C1,GC,wO,setCells,CR,EG,DQ,Cu,BD,alive,Cb,Fi,Hs,jo,Ay,DC,BV,GL,DY,D0,qY,oO,okB,qZ,qa,qb,qc,qd,fK,qe,qf,qg,qh,qi,qj,qm,qo,qp,qt,qu,okF,qv,qw,qx,qy,rC,U2,rD,RJ,RK,RL,RM,rE,rF,rG,rH,rI,rJ,rK,rL,rM,rN,Gu,rO,oP,rP,rQ,rR,rS,rT,rU,rV,rW,rX,rY,Cm,b,xI,xL,xM,xF,xG,g0,g1,lf];refine⟨⟨AZ,AZ⟩,?_⟩;simp;refine BO ha (row:=Aa t) (by omega) (by simp[AP]) (Ad t) (by omega) ?_;obtain⟨k',n',x,es⟩:=t;simp only[Aa,Bz,Ci] at e3;simp[Aa];refine AG e3 ?_;rintro v rfl;cases hc:BW 0 (.mk k' n' x es) with
  | false=>
   rw[hc] at hP';simpa[QP,QI] using hP'
  | true=>
   rw[hc] at hP';simp;have:=Ry (n:=n) (k:=6) (i:=i) ha hl ih (by simpa using hP')
   grind
 .have c':¬ ((ts.length:Int)=2):=by omega
  have b:(ts.length==2)=false:=by grind
  rw[b] at hP;have b':((ts.length:Int) != 2)=true:=by grind
  simpa[-bne_iff_ne,QP,QI,b'] using hP
theorem wf7 (h5:¬ k=5) (h2:¬ k=2) (h3:¬ k=3) (h4:¬ k=4) (h6:¬ k=6) (hP:Post (BB false)):NI R 0 0 0 (.ptr 0 0) (AA ts.length) (AA k) (BB false) ⟨[[AA k,SS n,AA i,a]],[]⟩ (QP Post):=by
 refine TA ⟨by simp,λ_=>⟨⟨rfl,rfl⟩,⟨by grind,λ_=>⟨⟨rfl,rfl⟩,⟨by grind,λ_=>⟨⟨rfl,rfl⟩,⟨by grind,λ_=>⟨⟨rfl,rfl⟩,⟨by grind,λ_=>⟨⟨rfl,rfl⟩,⟨by grind,λ_=>?_⟩⟩⟩⟩⟩⟩⟩⟩⟩⟩⟩;exact⟨_,Gu,hP⟩
theorem P4 (ha:Av a (AP ts)) (hs:AQ ts<2 ^ 38) (hn:U2 n) (ih:∀t∈ts,AL (env R) 73 [.agg ((Aa t).map .pv)] λr=>r=BB (valid t)) (hP:Post (BB (shape k n i ts&&Ar ts))) :
  uJ R 0 0 0 (.ptr 0 0) (AA ts.length) ⟨[[AA k,SS n,AA i,a]],[]⟩ (QP Post):=by
 refine ANe ?_
 by_cases h0:k=0
 .simp_all[wf0,shape]
 by_cases h1:k=1
 .simp_all[wf0,shape]
 have b0:(k==0)=false:=by grind
 have b1:(k==1)=false:=by grind
 simp[h0];have e:(BB (k==1):AV)=BB false:=by rw[b1]
 grind[wf2,shape,wf3,wf4,wf5,wf6,wf7]
end
end
abbrev ph (v:Nat):Ty:=.mk 7 [] v []
abbrev var (i:Int):Ty:=.mk 5 [] i []
def hole:Int:=1073741824
structure Br where
 bounds:List Ty
 body:Ty
def eE {α:Type} (d:α) (g:Ty->Ty->α):List Ty->α
 | [b,body]=>g b body
 | _=>d
mutual
def BR (f:Int->Ty):Ty->Ty
 | .mk k n i ts=>bif k==5 then f i else bif k==2||k==3 then .mk k n i (BU f ts) else .mk k n i ts
def BU (f:Int->Ty):List Ty->List Ty
 | []=>[]
 | t::l=>BR f t::BU f l
end
def Je (n:Nat):Ty->Ty:=BR λi=>bif decide (0<=i)&&!(i==hole) then var (i+n) else var i
def mkV:Ty->Ty:=BR λi=>var (-1-i)
def Mm (n:Nat):Ty->Ty:=BR λi=>bif i==-1 then var n else bif decide (i<0) then var (i+1) else var i
def LC (n m:Int):Ty->Ty:=BR λi=>bif i==n then var m else var i
mutual
def oA (p:Int->Bool):Ty->Bool
 | .mk k _ i ts=>bif k==5 then p i else k==2&&ZW p ts
def ZW (p:Int->Bool):List Ty->Bool
 | []=>false
 | t::l=>oA p t||ZW p l
end
mutual
def oI (p:Int->Bool):Ty->Bool
 | .mk k n i ts=>bif k==2 then oA p (.mk k n i ts) else k==3&&KV p ts
def KV (p:Int->Bool):List Ty->Bool
 | []=>false
 | t::l=>oI p t||KV p l
end
mutual
def Al:Ty->List Int
 | .mk k _ i ts=>bif k==5 then [i] else bif k==3 then CL ts else []
def CL:List Ty->List Int
 | []=>[]
 | t::l=>Al t++CL l
end
mutual
def M1 (b:Ty):Ty->Nat->Ty
 | .mk c n i ts,k=>bif c==5 then(bif k==0 then b else .mk c n i ts) else bif c==3 then .mk c n i (HN b ts k) else .mk c n i ts
def HN (b:Ty):List Ty->Nat->List Ty
 | [],_=>[]
 | t::l,k=>bif decide (k<(Al t).length) then M1 b t k::l else t::HN b l (k-(Al t).length)
end
def H8 (b:Ty):Option Nat:=(Al b).findIdx? (·==hole)
def Eh (b:Br) (k:Nat) (c:Br):Br:=⟨b.bounds++c.bounds,M1 (Je b.bounds.length c.body) b.body k⟩
section
variable (Au:Nat->Bool)
def Oh {α β:Type} (g:α->Option (List β)):List α->List β->Option (List β)
 | [],out=>some out
 | a::l,out=>match g a with
  | none=>none
  | some r=>bif Au (out++r).length then none else Oh g l (out++r)
def HE (l:List Br):Nat->Br->Option (List Br)
 | 0,b=>some [b]
 | f+1,b=>match H8 b.body with
  | none=>some [b]
  | some k=>Oh Au (λc=>HE l f (Eh b k c)) l []
def JM (YM:Option (List Br)) (bound:Ty) (b:Br):Option (List Br):=
 bif oI (·==(b.bounds.length:Int)) (Mm b.bounds.length b.body) then some [⟨b.bounds++[bound],Mm b.bounds.length b.body⟩]
 else match H8 (LC b.bounds.length hole (Mm b.bounds.length b.body)) with
  | none=>some [⟨b.bounds,LC b.bounds.length hole (Mm b.bounds.length b.body)⟩]
  | some _=>match YM with
   | none=>none
   | some l=>HE Au l (Al b.body).length ⟨b.bounds,LC b.bounds.length hole (Mm b.bounds.length b.body)⟩
def NJ (out:List Br) (l:List Br):List Br:=out.flatMap λb=>l.map λc=>⟨b.bounds++c.bounds,match b.body with
 | .mk _ _ _ args=>.mk 3 [] 0 (args++[Je b.bounds.length c.body])⟩
def Ln:List (List Br)->List Br->Option (List Br)
 | [],out=>some out
 | l::ls,out=>bif Au (NJ out l).length then none else Ln ls (NJ out l)
def IU {α:Type}:List (Option α)->Option (List α)
 | []=>some []
 | none::_=>none
 | some a::l=>match IU l with
  | none=>none
  | some r=>some (a::r)
def HQ:Nat->Ty->Option (List Br)
 | 0,_=>none
 | f+1,.mk k n i ts=>
  bif k==0 then some [⟨[],.mk k n i ts⟩]
  else bif k==2||k==5 then some [⟨[],mkV (.mk k n i ts)⟩]
  else bif k==3 then match IU (ts.map (HQ f)) with
   | none=>none
   | some ls=>bif ls.any List.isEmpty then some [] else Ln Au ls [⟨[],.mk 3 [] 0 []⟩]
  else bif k==4 then match IU (ts.map (HQ f)) with
   | none=>none
   | some ls=>bif Au ls.flatten.length then none else some ls.flatten
  else bif k==6 then eE (some []) (λb body=>match HQ f body with
    | none=>none
    | some l=>Oh Au (JM Au (HQ f b) b) l []) ts
  else some []
mutual
def sub (v:Nat) (u:Nat):Ty->Ty
 | .mk k n i ts=>bif k==5 then(bif i==(u:Int) then ph v else bif decide ((u:Int)<i) then .mk k n (i-1) ts else .mk k n i ts) else .mk k n i (J4 v u k 0 ts)
def J4 (v:Nat) (u:Nat) (k:Int) (j:Nat):List Ty->List Ty
 | []=>[]
 | t::l=>sub v (u+EW k j) t::J4 v u k (j+1) l
end
mutual
def Cz (v:Nat) (inv:Bool):Ty->Bool
 | .mk k _ i ts=>bif k==7 then i==(v:Int)&&!inv else Fj v (inv&&!(k==2)) ts
def Fj (v:Nat) (inv:Bool):List Ty->Bool
 | []=>false
 | t::l=>Cz v inv t||Fj v inv l
end
mutual
def BH (m:Int->Bool):Ty->Nat
 | .mk k _ i ts=>bif k==7 then(bif m i then 1 else 0) else bif k==3 then CW m ts else 0
def CW (m:Int->Bool):List Ty->Nat
 | []=>0
 | t::l=>BH m t+CW m l
end
mutual
def J5 (m:Int->Bool) (b:Ty):Ty->Nat->Ty
 | .mk c n i ts,k=>bif c==7 then(bif m i&&k==0 then b else .mk c n i ts) else bif c==3 then .mk c n i (Jf m b ts k) else .mk c n i ts
def Jf (m:Int->Bool) (b:Ty):List Ty->Nat->List Ty
 | [],_=>[]
 | t::l,k=>bif decide (k<BH m t) then J5 m b t k::l else t::Jf m b l (k-BH m t)
end
abbrev FV:=Option (List Ty)×List Ty
def CX {α:Type} (g:α->List Ty->FV):List α->List Ty->List Ty->FV
 | [],out,B=>(some out,B)
 | a::l,out,B=>match g a B with
  | (none,B)=>(none,B)
  | (some r,B)=>bif Au (out++r).length then(none,B) else CX g l (out++r) B
def CB (ex:List Ty->FV) (v:Nat):Nat->Ty->List Ty->FV
 | 0,t,B=>(some [t],B)
 | f+1,t,B=>bif Cz v false t then match ex B with
   | (none,B)=>(none,B)
   | (some cs,B)=>CX Au (λc B=>CB ex v f (J5 (·==(v:Int)) c t 0) B) cs [] B
  else(some [t],B)
def Bl (ex:List Ty->FV) (v:Nat) (t:Ty) (B:List Ty):FV:=
 bif Cz v true t then(some [t],B) else CB Au ex v (BH (·==(v:Int)) t) t B
def DR:List (List Ty)->List (List Ty)->Option (List (List Ty))
 | [],out=>some out
 | l::ls,out=>bif Au (out.flatMap λp=>l.map λx=>p++[x]).length then none else DR ls (out.flatMap λp=>l.map λx=>p++[x])
def G3 (ex:Ty->List Ty->FV):List Ty->List Ty->Bool->List Ty->(List Ty×Bool)×List Ty
 | [],out,ok,B=>((out,ok),B)
 | t::l,out,ok,B=>match ex t B with
  | (none,B)=>G3 ex l out false B
  | (some r,B)=>G3 ex l (out++r) ok B
def EI (ex:Ty->List Ty->FV):List Ty->List (List Ty)->List Ty->Option (List (List Ty))×List Ty
 | [],out,B=>(some out,B)
 | t::l,out,B=>match ex t B with
  | (none,B)=>(none,B)
  | (some r,B)=>EI ex l (out++[r]) B
def Ao:Nat->Ty->List Ty->FV
 | 0,_,B=>(none,B)
 | f+1,.mk k n i ts,B=>
  bif k==0||k==2||k==7 then(bif Au 1 then none else some [.mk k n i ts],B)
  else bif k==4 then match G3 (Ao f) ts [] true B with
   | ((out,ok),B)=>(bif ok&&!Au out.length then some out else none,B)
  else bif k==3 then match EI (Ao f) ts [] B with
   | (none,B)=>(none,B)
   | (some ls,B)=>bif ls.any List.isEmpty then(some [],B) else match DR Au ls [[]] with
    | none=>(none,B)
    | some all=>(bif Au all.length then none else some (all.map (.mk 3 [] 0)),B)
  else bif k==6 then eE (some [],B) (λb body=>match Ao f (sub B.length 0 body) (B++[b]) with
    | (none,B1)=>(none,B1)
    | (some l,B1)=>match CX Au (Bl Au (Ao f b) B.length) l [] B1 with
     | (none,B2)=>(none,B2)
     | (some out,B2)=>(bif Au out.length then none else some out,B2)) ts
  else(bif Au 0 then none else some [],B)
end
mutual
def vis:Ty->List Int
 | .mk k _ i ts=>bif k==5 then [i] else bif k==2||k==3 then C2 ts else []
def C2:List Ty->List Int
 | []=>[]
 | t::l=>vis t++C2 l
end
def P5 (t:Ty):Bool:=valid t&&BW 0 t
mutual
def pl:Ty->Bool
 | .mk k n i ts=>bif k==5 then n==[]&&ts.isEmpty else bif k==2 then U6 ts else P5 (.mk k n i ts)
def U6:List Ty->Bool
 | []=>true
 | t::l=>pl t&&U6 l
end
mutual
def bd:Ty->Bool
 | .mk k n i ts=>bif k==5 then n==[]&&ts.isEmpty else bif k==2 then U6 ts else bif k==3 then MA ts else P5 (.mk k n i ts)
def MA:List Ty->Bool
 | []=>true
 | t::l=>bd t&&MA l
end
theorem jy {k i:Int} {n:List UInt8} {ts:List Ty} (hk:k≠6) (h:P5 (.mk k n i ts)=true):∀t∈ts,P5 t=true:=by
 unfold P5 at h;simp only[AD,valid,BW] at h;obtain⟨⟨_,h1⟩,h2⟩:=h;have h3:C7 0 k 0 ts=true:=by grind
 have k6:(k==6)=false:=by grind
 have hb:∀j,EW k j=0:=λj=>by simp[EW,k6]
 have:∀(l:List Ty) (j:Nat),Ar l=true->C7 0 k j l=true->∀t∈l,P5 t=true:=by
  intro l
  induction l with
  | nil=>simp
  | cons a l ih=>
   grind[Ar,C7,P5]
 grind
theorem TB {k i:Int} {n:List UInt8} {ts:List Ty} (h:P5 (.mk k n i ts)=true):k≠5/\k≠7:=by grind[P5,valid,BW,root,shape]
mutual
theorem Hu:∀(t:Ty) (f:Int->Ty),P5 t=true->BR f t=t
 | .mk k n i ts,f,h=>by
  have hk:=TB h;have b5:(k==5)=false:=by grind
  rw[BR,b5];simp only[AE];cases b:(k==2||k==3) with
  | false=>rfl
  | true=>
   have YN:k≠6:=by grind
   simp only[AH];rw[aI ts f (jy YN h)]
theorem aI:∀(l:List Ty) (f:Int->Ty),(∀t∈l,P5 t=true)->BU f l=l
 | [],_,_=>rfl
 | t::l,f,h=>by
  rw[BU,Hu t f (h t (by simp)),aI l f λt ht=>h t (Ew _ ht)]
end
mutual
theorem YO:∀(t:Ty),P5 t=true->vis t=[]
 | .mk k n i ts,h=>by
  have hk:=TB h;have b5:(k==5)=false:=by grind
  rw[vis,b5];simp only[AE];cases b:(k==2||k==3) with
  | false=>rfl
  | true=>
   have YN:k≠6:=by grind
   simp only[AH];exact jz ts (jy YN h)
theorem jz:∀(l:List Ty),(∀t∈l,P5 t=true)->C2 l=[]
 | [],_=>rfl
 | t::l,h=>by
  rw[C2,YO t (h t (by simp)),jz l λt ht=>h t (Ew _ ht)];rfl
end
mutual
theorem Gv (f:Int->Ty) (g:Int->Int):∀t:Ty,BR f (BR (λi=>var (g i)) t)=BR (λi=>f (g i)) t
 | .mk k n i ts=>by
  rw[BR,BR];cases b5:(k==5) with
  | true=>rfl
  | false=>
   cases b:(k==2||k==3) with
   | false=>grind[BR]
   | true=>simp only[AE,AH,BR,b5,b,TC f g ts]
theorem TC (f:Int->Ty) (g:Int->Int):∀l:List Ty,BU f (BU (λi=>var (g i)) l)=BU (λi=>f (g i)) l
 | []=>rfl
 | t::l=>by simp only[BU,Gv f g t,TC f g l]
end
mutual
theorem C3 {f g:Int->Ty}:∀(t:Ty),(∀i∈vis t,f i=g i)->BR f t=BR g t
 | .mk k n i ts,h=>by
  rw[BR,BR];rw[vis] at h;cases b5:(k==5) with
  | true=>
   grind
  | false=>
   rw[b5] at h;cases b:(k==2||k==3) with
   | false=>rfl
   | true=>
    rw[b] at h;simp only[AE,AH] at h ⊢;rw[Qy ts h]
theorem Qy {f g:Int->Ty}:∀(l:List Ty),(∀i∈C2 l,f i=g i)->BU f l=BU g l
 | [],_=>rfl
 | t::l,h=>by
  simp only[C2,CM] at h;rw[BU,BU,C3 t λi hi=>h i (.inl hi),Qy l λi hi=>h i (.inr hi)]
end
mutual
theorem Hv (g:Int->Int):∀t:Ty,vis (BR (λi=>var (g i)) t)=(vis t).map g
 | .mk k n i ts=>by
  rw[BR,vis];cases b5:(k==5) with
  | true=>rfl
  | false=>
   cases b:(k==2||k==3) with
   | false=>grind[vis]
   | true=>simp only[AE,AH,vis,b5,b,aJ g ts]
theorem aJ (g:Int->Int):∀l:List Ty,C2 (BU (λi=>var (g i)) l)=(C2 l).map g
 | []=>rfl
 | t::l=>by simp only[BU,C2,Hv g t,aJ g l,XJ]
end
mutual
theorem EJ (g:Int->Int):∀t:Ty,Al (BR (λi=>var (g i)) t)=(Al t).map g
 | .mk k n i ts=>by
  rw[BR,Al];cases b5:(k==5) with
  | true=>rfl
  | false=>
   cases b3:(k==3) with
   | true=>simp only[AE,AH,Al,b5,b3,Df,Vm g ts]
   | false=>
    grind[Al]
theorem Vm (g:Int->Int):∀l:List Ty,CL (BU (λi=>var (g i)) l)=(CL l).map g
 | []=>rfl
 | t::l=>by simp only[BU,CL,EJ g t,Vm g l,XJ]
end
mutual
theorem Oi:∀(t:Ty),∀i∈Al t,i∈vis t
 | .mk k n i ts=>by
  rw[Al,vis];cases b5:(k==5) with
  | true=>simp
  | false=>
   cases b3:(k==3) with
   | true=>simpa using Vn ts
   | false=>simp
theorem Vn:∀(l:List Ty),∀i∈CL l,i∈C2 l
 | []=>by simp[CL]
 | t::l=>by
  intro i hi;simp only[CL,C2,CM] at hi ⊢;rcases hi with hi|hi
  .exact .inl (Oi t i hi)
  .exact .inr (Vn l i hi)
end
mutual
theorem uK (p:Int->Bool) (g:Int->Int):∀t:Ty,pl t=true->oA p (BR (λi=>var (g i)) t)=oA (λi=>p (g i)) t
 | .mk k n i ts,h=>by
  rw[BR,oA];cases b5:(k==5) with
  | true=>rfl
  | false=>
   cases b2:(k==2) with
   | true=>
    rw[pl,b5,b2] at h;simp only[AE,AH] at h;simp only[AE,AH,oA,b5,b2,Dg,CU,j0 p g ts h]
   | false=>
    grind[oA]
theorem j0 (p:Int->Bool) (g:Int->Int):∀l:List Ty,U6 l=true->ZW p (BU (λi=>var (g i)) l)=ZW (λi=>p (g i)) l
 | [],_=>rfl
 | t::l,h=>by
  simp only[U6,AD] at h;simp only[BU,ZW,uK p g t h.1,j0 p g l h.2]
end
mutual
theorem aK {p q:Int->Bool}:∀t:Ty,(∀i∈vis t,p i=q i)->oA p t=oA q t
 | .mk k n i ts,h=>by
  rw[vis] at h;rw[oA,oA];cases b5:(k==5) with
  | true=>grind
  | false=>
   rw[b5] at h;cases b2:(k==2) with
   | false=>simp
   | true=>
    rw[b2] at h;simp only[AE,AH,Dg] at h ⊢;rw[Vo ts h]
theorem Vo {p q:Int->Bool}:∀l:List Ty,(∀i∈C2 l,p i=q i)->ZW p l=ZW q l
 | [],_=>rfl
 | t::l,h=>by
  simp only[C2,CM] at h;rw[ZW,ZW,aK t λi hi=>h i (.inl hi),Vo l λi hi=>h i (.inr hi)]
end
mutual
theorem TD {p q:Int->Bool}:∀t:Ty,(∀i∈vis t,p i=q i)->oI p t=oI q t
 | .mk k n i ts,h=>by
  have h0:=aK (.mk k n i ts) h;rw[vis] at h;rw[oI,oI];cases b2:(k==2) with
  | true=>grind
  | false=>
   cases b3:(k==3) with
   | false=>simp
   | true=>
    have b5:(k==5)=false:=by grind
    rw[b5,b3] at h;simp only[AE,AH,Df] at h;simp only[AE,CU];exact Vp ts h
theorem Vp {p q:Int->Bool}:∀l:List Ty,(∀i∈C2 l,p i=q i)->KV p l=KV q l
 | [],_=>rfl
 | t::l,h=>by
  simp only[C2,CM] at h;rw[KV,KV,TD t λi hi=>h i (.inl hi),Vp l λi hi=>h i (.inr hi)]
end
mutual
theorem AIz (g:Int->Int):∀t:Ty,pl t=true->pl (BR (λi=>var (g i)) t)=true
 | .mk k n i ts,h=>by
  rw[BR];cases b5:(k==5) with
  | true=>rfl
  | false=>
   cases b2:(k==2) with
   | true=>
    rw[pl,b5,b2] at h;simp only[AE,AH] at h;simp only[AE,AH,Dg,pl,b5,b2,YP g ts h]
   | false=>
    have hc:P5 (.mk k n i ts)=true:=by grind[pl]
    have e:=Hu (.mk k n i ts) (λi=>var (g i)) hc
    grind[BR]
theorem YP (g:Int->Int):∀l:List Ty,U6 l=true->U6 (BU (λi=>var (g i)) l)=true
 | [],_=>rfl
 | t::l,h=>by
  simp only[U6,AD] at h;simp only[BU,U6,AIz g t h.1,YP g l h.2,Fw]
end
mutual
theorem P6 (g:Int->Int):∀t:Ty,bd t=true->bd (BR (λi=>var (g i)) t)=true
 | .mk k n i ts,h=>by
  rw[BR];cases b5:(k==5) with
  | true=>rfl
  | false=>
   cases b2:(k==2) with
   | true=>
    simp_all[bd,YP]
   | false=>
    cases b3:(k==3) with
    | true=>
     rw[bd,b5,b2,b3] at h;simp only[AE,AH] at h;simp only[AE,AH,Df,bd,b5,b2,b3,j4 g ts h]
    | false=>
     grind
theorem j4 (g:Int->Int):∀l:List Ty,MA l=true->MA (BU (λi=>var (g i)) l)=true
 | [],_=>rfl
 | t::l,h=>by
  simp only[MA,AD] at h;simp only[BU,MA,P6 g t h.1,j4 g l h.2,Fw]
end
mutual
theorem fy (p:Int->Bool) (g:Int->Int):∀t:Ty,bd t=true->oI p (BR (λi=>var (g i)) t)=oI (λi=>p (g i)) t
 | .mk k n i ts,h=>by
  cases b2:(k==2) with
  | true=>
   have h2:k=2:=by grind
   subst h2;have hp:pl (.mk 2 n i ts)=true:=by assumption
   have:=uK p g (.mk 2 n i ts) hp
   assumption
  | false=>
   rw[BR,oI];cases b5:(k==5) with
   | true=>
    grind[oI]
   | false=>
    cases b3:(k==3) with
    | true=>
     rw[bd,b5,b2,b3] at h;simp only[AE,AH] at h;simp only[AE,AH,Df,oI,b2,b3,CU,j5 p g ts h]
    | false=>grind[oI]
theorem j5 (p:Int->Bool) (g:Int->Int):∀l:List Ty,MA l=true->KV p (BU (λi=>var (g i)) l)=KV (λi=>p (g i)) l
 | [],_=>rfl
 | t::l,h=>by
  simp only[MA,AD] at h;simp only[BU,KV,fy p g t h.1,j5 p g l h.2]
end
theorem Gf {k i:Int} {n:List UInt8} {ts:List Ty} (h:valid (.mk k n i ts)=true):k≠7:=by grind[valid,root,shape]
mutual
theorem LD (v:Nat):∀(t:Ty) (inv:Bool),valid t=true->Cz v inv t=false
 | .mk k n i ts,inv,h=>by
  have b7:(k==7)=false:=by grind[Gf]
  simp only[valid,AD] at h;rw[Cz,b7];simp only[AE];exact Qz v ts _ h.2
theorem Qz (v:Nat):∀(l:List Ty) (inv:Bool),Ar l=true->Fj v inv l=false
 | [],_,_=>rfl
 | t::l,inv,h=>by
  simp only[Ar,AD] at h;rw[Fj,LD v t inv h.1,Qz v l inv h.2];rfl
end
theorem Mn {t:Ty} (h:P5 t=true):valid t=true:=by grind[P5]
section
variable (φ:Int->Nat)
abbrev tr (b:Ty):Ty:=BR (λi=>ph (φ i)) b
abbrev RO (l:List Ty):List Ty:=BU (λi=>ph (φ i)) l
mutual
theorem ABu (v:Nat):∀b:Ty,pl b=true->Cz v false (tr φ b)=oA (λi=>φ i==v) b
 | .mk k n i ts,h=>by
  rw[tr,BR,oA];cases b5:(k==5) with
  | true=>
   grind[Cz]
  | false=>
   cases b2:(k==2) with
   | true=>
    have h2:k=2:=by grind
    subst h2;rw[pl] at h;have:=Oj v ts (by grind)
    assumption
   | false=>
    have hc:P5 (.mk k n i ts)=true:=by grind[pl]
    have e:=Hu (.mk k n i ts) (λi=>ph (φ i)) hc
    grind[BR,LD,Mn]
theorem Oj (v:Nat):∀l:List Ty,U6 l=true->Fj v false (RO φ l)=ZW (λi=>φ i==v) l
 | [],_=>rfl
 | t::l,h=>by
  simp only[U6,AD] at h;rw[RO,BU,Fj,ZW];rw[ABu v t h.1,Oj v l h.2]
end
mutual
theorem YQ (v:Nat):∀b:Ty,bd b=true->Cz v true (tr φ b)=oI (λi=>φ i==v) b
 | .mk k n i ts,h=>by
  rw[tr,BR,oI];cases b5:(k==5) with
  | true=>
   grind[Cz]
  | false=>
   cases b2:(k==2) with
   | true=>
    simp_all[bd,Oj,Cz,oA]
   | false=>
    cases b3:(k==3) with
    | true=>
     have h3:k=3:=by grind
     subst h3;rw[bd] at h;have:=aL v ts (by grind)
     assumption
    | false=>
     grind[bd,LD,Mn]
theorem aL (v:Nat):∀l:List Ty,MA l=true->Fj v true (RO φ l)=KV (λi=>φ i==v) l
 | [],_=>rfl
 | t::l,h=>by
  simp only[MA,AD] at h;rw[RO,BU,Fj,KV,YQ v t h.1,aL v l h.2]
end
mutual
theorem uL (v:Nat):∀b:Ty,bd b=true->Cz v false (tr φ b)=(oI (λi=>φ i==v) b||(Al b).any λi=>φ i==v)
 | .mk k n i ts,h=>by
  rw[tr,BR,oI,Al];cases b5:(k==5) with
  | true=>
   grind[Cz]
  | false=>
   cases b2:(k==2) with
   | true=>
    simp_all[bd,Oj,Cz,oA]
   | false=>
    cases b3:(k==3) with
    | true=>
     have h3:k=3:=by grind
     subst h3;rw[bd] at h;have:=j6 v ts (by grind)
     assumption
    | false=>
     grind[bd,LD,Mn]
theorem j6 (v:Nat):∀l:List Ty,MA l=true->Fj v false (RO φ l)=(KV (λi=>φ i==v) l||(CL l).any λi=>φ i==v)
 | [],_=>rfl
 | t::l,h=>by
  simp only[MA,AD] at h;rw[RO,BU,Fj,KV,CL,uL v t h.1,j6 v l h.2,List.any_append]
  grind
end
mutual
theorem gD (m:Int->Bool):∀b:Ty,bd b=true->BH m (tr φ b)=(Al b).countP λi=>m (φ i)
 | .mk k n i ts,h=>by
  rw[tr,BR,Al];cases b5:(k==5) with
  | true=>
   rfl
  | false=>
   cases b3:(k==3) with
   | true=>
    have h3:k=3:=by grind
    subst h3;rw[bd] at h;have:=j7 m ts (by grind)
    assumption
   | false=>
    grind[bd,TB,BH]
theorem j7 (m:Int->Bool):∀l:List Ty,MA l=true->CW m (RO φ l)=(CL l).countP λi=>m (φ i)
 | [],_=>rfl
 | t::l,h=>by
  simp only[MA,AD] at h;rw[RO,BU,CW,CL,gD m t h.1,j7 m l h.2,Rg]
end
mutual
theorem ADw (m:Int->Bool) (c:Ty):∀(b:Ty) (k j:Nat),bd b=true->(∃x,(Al b)[k]?=some x/\m (φ x)=true)->((Al b).take k).countP (λi=>m (φ i))=j->tr φ (M1 c b k)=J5 m (tr φ c) (tr φ b) j
 | .mk k n i ts,q,j,h,hx,hj=>by
  cases b5:(k==5) with
  | true=>
   grind[Al,M1,BR,J5]
  | false=>
   cases b3:(k==3) with
   | true=>
    have h3:k=3:=by grind
    subst h3;rw[bd] at h;rw[Al] at hx hj;have:=uM m c ts q j (by grind) (by grind) (by grind)
    grind[M1,BR,J5]
   | false=>
    grind[Al]
theorem uM (m:Int->Bool) (c:Ty):∀(l:List Ty) (k j:Nat),MA l=true->(∃x,(CL l)[k]?=some x/\m (φ x)=true)->((CL l).take k).countP (λi=>m (φ i))=j->RO φ (HN c l k)=Jf m (tr φ c) (RO φ l) j
 | [],q,j,_,hx,_=>by rfl
 | t::l,q,j,h,hx,hj=>by
  simp only[MA,AD] at h;obtain⟨x,hx,hm⟩:=hx;rw[CL] at hx hj;have hc:=gD φ m t h.1;rw[show RO φ (t::l)=tr φ t::RO φ l from rfl]
  by_cases hq:q<(Al t).length
  .rw[Cf hq] at hx
   rw[XP (by omega)] at hj;have hlt:j<BH m (tr φ t):=by grind[List.take_append_drop]
   rw[HN,Jf,Aq hq,Aq hlt];simp only[AH];rw[<-ADw m c t q j h.1 ⟨x,hx,hm⟩ hj];rfl
  .rw[Ev (by omega)] at hx
   rw[List.take_append,Cv (by omega),Rg,<-hc] at hj;have hlt:¬ j<BH m (tr φ t):=by omega
   rw[HN,Jf,BF hq,BF hlt];simp only[AE];rw[<-uM m c l (q-(Al t).length) (j-BH m (tr φ t)) h.2 ⟨x,hx,hm⟩ (by omega)];rfl
end
end
section
variable (c:Ty)
mutual
theorem Ol:∀(b:Ty) (k:Nat),k<(Al b).length->Al (M1 c b k)=(Al b).take k++(Al c++(Al b).drop (k+1))
 | .mk q n i ts,k,hk=>by
  rw[Al] at hk ⊢;rw[M1];cases b5:(q==5) with
  | true=>
   grind
  | false=>
   rw[b5] at hk;cases b3:(q==3) with
   | true=>
    rw[b3] at hk;simp only[AE,AH] at hk ⊢;rw[Al,b5,b3];exact aM ts k hk
   | false=>grind
theorem aM:∀(l:List Ty) (k:Nat),k<(CL l).length->CL (HN c l k)=(CL l).take k++(Al c++(CL l).drop (k+1))
 | [],k,hk=>by grind[CL]
 | t::l,k,hk=>by
  rw[CL] at hk ⊢;rw[HN]
  by_cases h:k<(Al t).length
  .rw[Aq h]
   simp only[AH,CL];rw[Ol t k h,XP (by omega),List.drop_append_of_le_length (by omega)];simp
  .rw[BF h]
   simp only[AE,CL];have hk':k-(Al t).length<(CL l).length:=by grind
   have e1:(Al t).take k=Al t:=Cv (by omega);have e2:(Al t).drop (k+1)=[]:=Cj (by omega);rw[aM l _ hk',List.take_append,e1,List.drop_append,e2]
   grind
end
mutual
theorem uN:∀(b:Ty) (k:Nat),∀i∈vis (M1 c b k),i∈vis b\/i∈vis c
 | .mk q n j ts,k,i,hi=>by
  rw[M1] at hi;cases b5:(q==5) with
  | true=>
   grind
  | false=>
   rw[b5] at hi;cases b3:(q==3) with
   | true=>
    rw[b3] at hi;simp only[AE,AH] at hi;rw[vis,b5,b3] at hi ⊢;simp only[AE,Df,AH] at hi ⊢;exact j8 ts k i hi
   | false=>
    grind
theorem j8:∀(l:List Ty) (k:Nat),∀i∈C2 (HN c l k),i∈C2 l\/i∈vis c
 | [],k,i,hi=>by grind[HN]
 | t::l,k,i,hi=>by
  rw[HN] at hi;simp only[C2,CM];cases b:decide (k<(Al t).length) with
  | true=>
   rw[b] at hi;simp only[AH,C2,CM] at hi;rcases hi with hi|hi
   .rcases uN t k i hi with h|h
    all_goals grind
   grind
  | false=>
   rw[b] at hi;simp only[AE,C2,CM] at hi;rcases hi with hi|hi
   .grind
   .rcases j8 l _ i hi with h|h
    all_goals grind
end
mutual
theorem ADx (p:Int->Bool):∀(b:Ty) (k:Nat),oI p (M1 c b k)=true->oI p b=true\/oI p c=true
 | .mk q n j ts,k,hi=>by
  rw[M1] at hi;cases b5:(q==5) with
  | true=>
   grind
  | false=>
   rw[b5] at hi;cases b3:(q==3) with
   | true=>
    have h3:q=3:=by grind
    subst h3;simp only[AE,AH,CN] at hi;rw[oI] at hi ⊢;simp only[show((3:Int)==2)=false from rfl,AE,CN,CU] at hi ⊢;exact uO p ts k hi
   | false=>
    grind
theorem uO (p:Int->Bool):∀(l:List Ty) (k:Nat),KV p (HN c l k)=true->KV p l=true\/oI p c=true
 | [],k,hi=>by grind[HN]
 | t::l,k,hi=>by
  rw[HN] at hi;simp only[KV,DX];cases b:decide (k<(Al t).length) with
  | true=>
   rw[b] at hi;simp only[AH,KV,DX] at hi;rcases hi with hi|hi
   .rcases ADx p t k hi with h|h
    all_goals grind
   grind
  | false=>
   rw[b] at hi;simp only[AE,KV,DX] at hi;rcases hi with hi|hi
   .grind
   .rcases uO p l _ hi with h|h
    all_goals grind
end
mutual
theorem ADy (hc:bd c=true):∀(b:Ty) (k:Nat),bd b=true->bd (M1 c b k)=true
 | .mk q n j ts,k,h=>by
  rw[M1];cases b5:(q==5) with
  | true=>
   grind
  | false=>
   cases b3:(q==3) with
   | true=>
    have h3:q=3:=by grind
    subst h3;rw[bd] at h;simp only[AE,AH];rw[bd];have:=uP hc ts k (by grind)
    grind
   | false=>grind
theorem uP (hc:bd c=true):∀(l:List Ty) (k:Nat),MA l=true->MA (HN c l k)=true
 | [],k,h=>h
 | t::l,k,h=>by
  simp only[MA,AD] at h;rw[HN];cases decide (k<(Al t).length) with
  | true=>simp[MA,ADy hc t k h.1,h.2]
  | false=>simp[MA,uP hc l _ h.2,h.1]
end
end
mutual
theorem uQ:∀(b:Ty),pl b=true->∀i∈vis b,oA (·==i) b=true
 | .mk k n j ts,h,i,hi=>by
  rw[vis] at hi;rw[oA];cases b5:(k==5) with
  | true=>rw[b5] at hi; simp at hi; simp[hi]
  | false=>
   cases b2:(k==2) with
   | true=>
    rw[pl,b5,b2] at h;rw[b5,b2] at hi;simp only[AE,AH,Dg] at h hi;simp[j9 ts h i hi]
   | false=>
    have hc:P5 (.mk k n j ts)=true:=by grind[pl]
    have:=YO _ hc
    grind[vis]
theorem j9:∀(l:List Ty),U6 l=true->∀i∈C2 l,ZW (·==i) l=true
 | [],_,i,hi=>by cases hi
 | t::l,h,i,hi=>by
  simp only[U6,AD] at h;rw[C2,CM] at hi;rw[ZW,DX];rcases hi with hi|hi
  .exact .inl (uQ t h.1 i hi)
  .exact .inr (j9 l h.2 i hi)
end
mutual
theorem Vq:∀(b:Ty),bd b=true->∀i∈vis b,i∈Al b\/oI (·==i) b=true
 | .mk k n j ts,h,i,hi=>by
  cases b2:(k==2) with
  | true=>
   grind[pl,bd,oI,uQ]
  | false=>
   rw[vis] at hi;rw[Al,oI];cases b5:(k==5) with
   | true=>grind
   | false=>
    cases b3:(k==3) with
    | true=>
     rw[bd,b5,b2,b3] at h;rw[b5,b2,b3] at hi;simp only[AE,AH,Df] at h hi;have:=TE ts h i hi
     grind
    | false=>
     grind
theorem TE:∀(l:List Ty),MA l=true->∀i∈C2 l,i∈CL l\/KV (·==i) l=true
 | [],_,i,hi=>by cases hi
 | t::l,h,i,hi=>by
  simp only[MA,AD] at h;rw[C2,CM] at hi;rw[CL,CM,KV,DX];rcases hi with hi|hi
  .rcases Vq t h.1 i hi with h' | h'
   all_goals grind
  .rcases TE l h.2 i hi with h' | h'
   all_goals grind
end
mutual
theorem uR (p:Int->Bool):∀(b:Ty),oI p b=true->∃i∈vis b,p i=true
 | .mk k n j ts,h=>by
  rw[oI] at h;cases b2:(k==2) with
  | true=>
   rw[b2] at h;simp only[AH] at h;exact uS p _ h
  | false=>
   rw[b2] at h;simp only[AE,AD] at h;have h3:k=3:=by grind
   subst h3;rw[vis];simpa using kA p ts h.2
theorem kA (p:Int->Bool):∀(l:List Ty),KV p l=true->∃i∈C2 l,p i=true
 | [],h=>by cases h
 | t::l,h=>by
  rw[KV,DX] at h;rw[C2];rcases h with h|h
  .obtain⟨i,h1,h2⟩:=uR p t h
   grind
  .obtain⟨i,h1,h2⟩:=kA p l h
   grind
theorem uS (p:Int->Bool):∀(b:Ty),oA p b=true->∃i∈vis b,p i=true
 | .mk k n j ts,h=>by
  rw[oA] at h;rw[vis];cases b5:(k==5) with
  | true=>
   grind
  | false=>
   rw[b5] at h;simp only[AE,AD] at h;simpa[h.1] using kB p ts h.2
theorem kB (p:Int->Bool):∀(l:List Ty),ZW p l=true->∃i∈C2 l,p i=true
 | [],h=>by cases h
 | t::l,h=>by
  rw[ZW,DX] at h;rw[C2];rcases h with h|h
  .obtain⟨i,h1,h2⟩:=uS p t h
   grind
  .obtain⟨i,h1,h2⟩:=kB p l h
   grind
end
mutual
def inst (σ:List Nat) (u:Nat):Ty->Ty
 | .mk k n i ts=>bif k==5 then(bif decide ((u:Int)<=i) then(match σ[(i-u).toNat]? with
  | some v=>ph v
  | none=>.mk k n i ts) else .mk k n i ts) else .mk k n i (C9 σ u k 0 ts)
def C9 (σ:List Nat) (u:Nat) (k:Int) (j:Nat):List Ty->List Ty
 | []=>[]
 | t::l=>inst σ (u+EW k j) t::C9 σ u k (j+1) l
end
theorem DI {u:Nat} {k i:Int} {n:List UInt8} {ts:List Ty} (h:BW u (.mk k n i ts)=true) (h5:k≠5):C7 u k 0 ts=true:=by grind[BW]
theorem KW {u:Nat} {i:Int} {n:List UInt8} {ts:List Ty} (h:BW u (.mk 5 n i ts)=true):i<u:=by grind[BW]
theorem EA {n:List UInt8} {i:Int} {ts:List Ty} (h:valid (.mk 5 n i ts)=true):n=[]/\ts=[]/\0<=i:=by grind[valid,root,shape]
mutual
theorem HF (σ:List Nat):∀(t:Ty) (u:Nat),valid t=true->BW u t=true->inst σ u t=t
 | .mk k n i ts,u,hv,hc=>by
  rw[inst]
  by_cases h5:k=5
  .subst h5
   have:=KW hc
   grind
  .have b5:(k==5)=false:=by grind
   simp only[valid,AD] at hv;rw[b5];simp only[AE];rw[aN σ ts u k 0 hv.2 (DI hc h5)]
theorem aN (σ:List Nat):∀(l:List Ty) (u:Nat) (k:Int) (j:Nat),Ar l=true->C7 u k j l=true->C9 σ u k j l=l
 | [],_,_,_,_,_=>rfl
 | t::l,u,k,j,hv,hc=>by
  simp only[Ar,AD] at hv;simp only[C7,AD] at hc;rw[C9,HF σ t _ hv.1 hc.1,aN σ l u k (j+1) hv.2 hc.2]
end
mutual
theorem H9 (v:Nat) (σ:List Nat):∀(t:Ty) (u:Nat),valid t=true->BW (u+1+σ.length) t=true->sub v u (inst σ (u+1) t)=inst (v::σ) u t
 | .mk k n i ts,u,hv,hc=>by
  rw[inst,inst]
  by_cases h5:k=5
  .subst h5
   have hi:=KW hc;obtain⟨rfl,rfl,h0⟩:=EA hv;simp only[CN,AH]
   by_cases hu:(u:Int)+1<=i
   .have h1:((u+1:Nat):Int)<=i:=by omega
    have h2:(u:Int)<=i:=by omega
    rw[Aq h1,Aq h2];simp only[AH];have e:(i-(u:Int)).toNat=(i-((u+1:Nat):Int)).toNat+1:=by omega
    rw[e,G8];obtain⟨w,hw⟩:∃w,σ[(i-((u+1:Nat):Int)).toNat]?=some w:=⟨_,Ap (by omega)⟩
    simp_all[sub,J4]
   grind[sub]
  .have b5:(k==5)=false:=by grind
   simp only[valid,AD] at hv;rw[b5];simp only[AE];rw[sub,b5];simp only[AE];rw[Vr v σ ts u k 0 hv.2 (DI hc h5)]
theorem Vr (v:Nat) (σ:List Nat):∀(l:List Ty) (u:Nat) (k:Int) (j:Nat),Ar l=true->C7 (u+1+σ.length) k j l=true->J4 v u k j (C9 σ (u+1) k j l)=C9 (v::σ) u k j l
 | [],_,_,_,_,_=>rfl
 | t::l,u,k,j,hv,hc=>by
  simp only[Ar,AD] at hv;simp only[C7,AD] at hc;rw[C9,J4,C9];have e:u+1+EW k j=u+EW k j+1:=by omega
  rw[e,H9 v σ t (u+EW k j) hv.1 (by grind),Vr v σ l u k (j+1) hv.2 hc.2]
end
theorem Q0 {n:List UInt8} {i:Int} {ts:List Ty} (h:valid (.mk 2 n i ts)=true):D6 ts=true:=by grind[valid,root,shape]
mutual
theorem Nn (σ:List Nat):∀(t:Ty),valid t=true->plain t=true->BW σ.length t=true->pl t=true/\inst σ 0 t=tr (λi=>σ.getD i.toNat 0) t
 | .mk k n i ts,hv,hp,hc=>by
  by_cases h5:k=5
  .subst h5
   obtain⟨rfl,rfl,h0⟩:=EA hv;have hi:=KW hc
   grind[pl,inst,BR]
  .have b5:(k==5)=false:=by grind
   by_cases h2:k=2
   .subst h2
    have Li:=Q0 hv;simp only[valid,AD] at hv;obtain⟨q1,q2⟩:=Q1 σ ts 2 (by decide) 0 hv.2 Li (DI hc (by decide))
    grind[pl,inst,BR]
   grind[plain,P5,pl,HF,Hu]
theorem Q1 (σ:List Nat):∀(l:List Ty) (k:Int),k≠6->∀(j:Nat),Ar l=true->D6 l=true->C7 σ.length k j l=true->U6 l=true/\C9 σ 0 k j l=RO (λi=>σ.getD i.toNat 0) l
 | [],_,_,_,_,_,_=>⟨rfl,rfl⟩
 | t::l,k,h6,j,hv,hp,hc=>by
  simp only[Ar,AD] at hv;simp only[D6,AD] at hp;have b6:(k==6)=false:=by grind
  have hb:EW k j=0:=by simp[EW,b6]
  simp only[C7,AD,hb,GQ] at hc;obtain⟨q1,q2⟩:=Nn σ t hv.1 hp.1 hc.1;obtain⟨r1,r2⟩:=Q1 σ l k h6 (j+1) hv.2 hp.2 hc.2;refine⟨by grind[U6],?_⟩;rw[C9,hb,GQ,q2,r2];rfl
end
mutual
theorem P7 (u:Nat):∀(t:Ty),valid t=true->BW u t=true->∀i∈vis t,0<=i/\i<u
 | .mk k n j ts,hv,hc,i,hi=>by
  rw[vis] at hi
  by_cases h5:k=5
  .subst h5
   obtain⟨rfl,rfl,h0⟩:=EA hv;have:=KW hc
   grind
  .have b5:(k==5)=false:=by grind
   rw[b5] at hi;cases b:(k==2||k==3) with
   | false=>grind
   | true=>
    rw[b] at hi;simp only[AE,AH] at hi;simp only[valid,AD] at hv;exact TF u ts k (by grind) 0 hv.2 (DI hc h5) i hi
theorem TF (u:Nat):∀(l:List Ty) (k:Int),k≠6->∀(j:Nat),Ar l=true->C7 u k j l=true->∀i∈C2 l,0<=i/\i<u
 | [],_,_,_,_,_,i,hi=>by cases hi
 | t::l,k,h6,j,hv,hc,i,hi=>by
  simp only[Ar,AD] at hv;have b6:(k==6)=false:=by grind
  have hb:EW k j=0:=by simp[EW,b6]
  simp only[C7,AD,hb,GQ] at hc;rw[C2,CM] at hi;rcases hi with hi|hi
  .exact P7 u t hv.1 hc.1 i hi
  .exact TF u l k h6 (j+1) hv.2 hc.2 i hi
end
end Go.Proofs.YtpgfpakdnijngaaGreatDoor
