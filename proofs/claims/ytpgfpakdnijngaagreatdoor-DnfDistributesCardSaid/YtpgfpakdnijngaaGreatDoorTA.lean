/-
  Terms ts plain data; their size and depth.
-/
import Derived.Test.YtpgfpakdnijngaaGreatDoorW1
import Derived.Test.YtpgfpakdnijngaaGreatDoorWpH
set_option linter.unusedSimpArgs false
set_option linter.unusedVariables false
namespace Go.Proofs.YtpgfpakdnijngaaGreatDoor
open Go.Tel
attribute [local simp] CX Cx MP MQ AX Df Ia wO setCells C2 FA DN Ca Bo alive Dx Hv KX nT Bi DF Bz Ib Fj Eo nU pY okB wX pZ wY pg wZ lu we wh wj wk wm wo wq wu wz w6 w7 okF w8 w9 xA xB xD Zh xE Ur Us Ut Uu xH xJ xK xN xO xQ xS xT xU xV Ic xW pn xX xY xZ xd pq xe xg xh xj xk Cn g0 g1 xI xL xM xF xG xC lf Y4 Y5
inductive Ty where
 | mk (kind:Int) (name:List UInt8) (index:Int) (args:List Ty)
mutual
def Ah:Ty->List PV
 | .mk k n i ts=>[.sc (.int .i64 k),.sc (.string ⟨n.toArray⟩),.sc (.int .i64 i),.list (AQ ts)]
def AQ:List Ty->List (List PV)
 | []=>[]
 | v::vs=>Ah v::AQ vs
end
theorem Ie:∀ l,AQ l=l.map Ah
 | []=>by simp[AQ]
 | v::vs=>by simp[AQ,Ie vs]
theorem Am (v:Ty):(Ah v).length=4:=by cases v; simp[Ah]
theorem Ad (l:List Ty):(AQ l).length=l.length:=by simp[Ie]
theorem CA {l:List Ty} {i:Nat} {a:Ty} (h:l[i]?=some a):(AQ l)[i]?=some (Ah a):=by simp[Ie,h]
def Bp (v:Ty) (x:AV):Prop:=match v with
 | .mk k n i ts=>∃ a,x=.agg [AD k,SS n,AD i,a]/\BP a (AQ ts)
theorem Bp.Ci (v:Ty):Bp v (.agg ((Ah v).map .pv)):=by
 cases v with
 | mk k n s es=>exact⟨_,by simp[Ah],.list _⟩
theorem drop_cons {α:Type} {l:List α} {i:Nat} {a:α} (h:l[i]?=some a):l.drop i=a::l.drop (i+1):=by
 obtain⟨h,e⟩:=Ae.1 h;rw[<-e,W9 h]
mutual
def size:Ty->Nat
 | .mk _ _ _ ts=>Ac ts+1
def Ac:List Ty->Nat
 | []=>0
 | a::l=>size a+Ac l
end
mutual
def depth:Ty->Nat
 | .mk _ _ _ ts=>EJ ts+1
def EJ:List Ty->Nat
 | []=>0
 | a::l=>max (depth a) (EJ l)
end
theorem size_pos (t:Ty):0<size t:=by cases t; simp[size]
theorem Cq:∀ l:List Ty,l.length<=Ac l
 | []=>by simp
 | a::l=>by
  have:=size_pos a;have:=Cq l;simp only[A3,Ac];omega
mutual
theorem Zi:∀ t:Ty,depth t<=size t
 | .mk _ _ _ ts=>by
  have:=VY ts;simp only[depth,size]; omega
theorem VY:∀ l:List Ty,EJ l<=Ac l
 | []=>by simp[EJ]
 | a::l=>by
  have:=Zi a;have:=VY l;simp only[EJ,Ac]; omega
end
theorem Ig:∀ {l:List Ty} {a:Ty},a∈l->size a<=Ac l
 | [],_,h=>by cases h
 | b::l,a,h=>by
  simp only[Ac];rcases Av.1 h with rfl|h
  ·omega
  ·have:=Ig h; omega
section
variable {R:Nat->Option (List PV)}
theorem lz {ts:List Ty} {a:AV} (ha:BP a (AQ ts)) (hl:Ac ts<2 ^ 60) (ih:∀ t∈ts,AW (env R) 84 [.agg ((Ah t).map .pv)] fun r=>r=AD (size t)) {Post:AV->Prop} :
  ∀ (j i c:Nat) (s:AK),i+j=ts.length->c+Ac (ts.drop i)<2 ^ 61->Post (AD ((c+Ac (ts.drop i):Nat):Int))->iZ R 0 0 0 (AD c) a (AD ts.length) (AD i) s (QP Post):=by
 have l5:=Cq ts;intro j
 induction j with
 | zero=>
  intro i c s hi hc hP;refine AAm ?_;have h1:¬ ((i:Int)<ts.length):=by omega
  simp[h1];refine AIA ?_;have h2:ts.drop i=[]:=Cf (by omega);rw[h2] at hP;simpa[QP,QI,Ac] using hP
 | succ j Gs=>
  intro i c s hi hc hP;refine AAm ?_;have h1:((i:Int)<ts.length):=by omega
  obtain⟨t,ht⟩:∃ t,ts[i]?=some t:=⟨_,Ak (by omega)⟩;have hd:=drop_cons ht;rw[hd] at hP hc;simp only[Ac] at hP hc;simp[h1];refine AIB ?_;refine CS ha (row:=Ah t) (by omega) (by simpa using CA ht) (Am t) (by omega) ?_;have e3:=ih t (BK ht);have e4:size t<=Ac ts:=Ig (BK ht);obtain⟨k,n,x,es⟩:=t;simp only[Ah,CI,EM] at e3;simp[Ah,Oz,So,O0,Sq];refine AI e3 ?_;rintro v rfl;simp only[Dx,xI];refine⟨⟨Al,Al⟩,DX (by omega) (by omega) (AIC ?_)⟩;simp only[Dx,xI];refine⟨⟨Al,Al⟩,DX (by omega) (by omega) ?_⟩;have:=Gs (i+1) (c+size (.mk k n x es)) ⟨s.bs++[[AD k,SS n,AD x,.pv (.list (AQ es))]],s.ts⟩ (by omega) (by omega) (by simpa[K6] using hP);simpa using this
mutual
theorem P6:∀ (t:Ty),size t<2 ^ 60->∀ (x:AV),Bp t x->AW (env R) 84 [x] fun r=>r=AD (size t)
 | .mk k n i ts,h,x,hx=>by
  obtain⟨a,rfl,ha⟩:=hx;simp only[size] at h;have ih:=Sr ts (by omega);refine e84 (u0:=.agg [AD k,SS n,AD i,a]) (by simp[ha.close]) (AID ?_);simp[ha.ok,ha.Bk,Ad];refine lz ha (by omega) ih ts.length 0 1 _ (by omega) (by simp; omega) ?_;simp[size];omega
theorem Sr:∀ (l:List Ty),Ac l<2 ^ 60->∀ t∈l,AW (env R) 84 [.agg ((Ah t).map .pv)] fun r=>r=AD (size t)
 | [],_,_,h=>by cases h
 | e::l,ho,a,h=>by
  simp only[Ac] at ho;rcases Av.1 h with h' | h'
  ·rw[h']
   exact P6 e (by omega) _ (Bp.Ci e)
  ·exact Sr l (by omega) a h'
end
end
section
variable {R:Nat->Option (List PV)}
theorem eE {ts:List Ty} {a:AV} (ha:BP a (AQ ts)) (hl:Ac ts<2 ^ 60) (ih:∀ t∈ts,AW (env R) 85 [.agg ((Ah t).map .pv)] fun r=>r=AD (depth t)) {Post:AV->Prop} :
  ∀ (j i c:Nat) (s:AK),i+j=ts.length->c<2 ^ 60->Post (AD ((max c (EJ (ts.drop i))+1:Nat):Int))->ia R 0 0 0 (AD c) a (AD ts.length) (AD i) s (QP Post):=by
 have l5:=Cq ts;intro j
 induction j with
 | zero=>
  intro i c s hi hc hP;refine AAn ?_;have h1:¬ ((i:Int)<ts.length):=by omega
  simp[h1];refine AIE ?_;have h2:ts.drop i=[]:=Cf (by omega);rw[h2] at hP;simp only[EJ,Nat.max_zero] at hP;simp only[Dx,xI];refine⟨⟨Al,Al⟩,DX (by omega) (by omega) ?_⟩;exact⟨_,Ic,by simpa using hP⟩
 | succ j Gs=>
  intro i c s hi hc hP;refine AAn ?_;have h1:((i:Int)<ts.length):=by omega
  obtain⟨t,ht⟩:∃ t,ts[i]?=some t:=⟨_,Ak (by omega)⟩;have hd:=drop_cons ht;rw[hd] at hP;simp only[EJ] at hP;simp[h1];refine AIF ?_;refine CS ha (row:=Ah t) (by omega) (by simpa using CA ht) (Am t) (by omega) ?_;have e3:=ih t (BK ht);have e4:size t<=Ac ts:=Ig (BK ht);have e5:=Zi t;obtain⟨k,n,x,es⟩:=t;simp only[Ah,CI,EM] at e3;simp[Ah,Oz,So,O0,Sq];refine AI e3 ?_;rintro v rfl;refine l7 (x:=.tmp 13) (y:=.tmp 15) (t:=#[3,3]) (by kernel_rfl) rfl rfl (AIH ?_);simp only[Dx,xI];refine⟨⟨Al,Al⟩,DX (by omega) (by omega) ?_⟩;have:=Gs (i+1) (max c (depth (.mk k n x es))) ⟨s.bs++[[AD k,SS n,AD x,.pv (.list (AQ es))]],s.ts⟩ (by omega) (by omega) (by simpa[Nat.max_assoc] using hP);have e6:((max c (depth (.mk k n x es)):Nat):Int)=max (c:Int) (depth (.mk k n x es)):=by omega
  rw[e6] at this;simpa using this
mutual
theorem Ss:∀ (t:Ty),size t<2 ^ 60->∀ (x:AV),Bp t x->AW (env R) 85 [x] fun r=>r=AD (depth t)
 | .mk k n i ts,h,x,hx=>by
  obtain⟨a,rfl,ha⟩:=hx;simp only[size] at h;have ih:=Qv ts (by omega);refine e85 (u0:=.agg [AD k,SS n,AD i,a]) (by simp[ha.close]) (AII ?_);simp[ha.ok,ha.Bk,Ad];refine eE ha (by omega) ih ts.length 0 0 _ (by omega) (by omega) ?_;simp[depth]
theorem Qv:∀ (l:List Ty),Ac l<2 ^ 60->∀ t∈l,AW (env R) 85 [.agg ((Ah t).map .pv)] fun r=>r=AD (depth t)
 | [],_,_,h=>by cases h
 | e::l,ho,a,h=>by
  simp only[Ac] at ho;rcases Av.1 h with h' | h'
  ·rw[h']
   exact Ss e (by omega) _ (Bp.Ci e)
  ·exact Qv l (by omega) a h'
end
end
def HF (k:Int) (j:Nat):Nat:=bif k==6&&j==1 then 1 else 0
mutual
def Dg (u:Nat):Ty->Bool
 | .mk k _ i ts=>bif k==5&&decide ((u:Int)<=i) then false else Eg u k 0 ts
def Eg (u:Nat) (k:Int) (j:Nat):List Ty->Bool
 | []=>true
 | t::l=>Dg (u+HF k j) t&&Eg u k (j+1) l
end
mutual
theorem Zj:∀ t:Ty,SI (Ah t) (Ah t)=true
 | .mk k n i ts=>by simp[Ah,SI,VF,JE,LV,Ep ts]
theorem Ep:∀ l:List Ty,IX (AQ l) (AQ l)=true
 | []=>by simp[AQ,IX]
 | t::l=>by simp[AQ,IX,Zj t,Ep l]
end
theorem Su (k:Int) (j:Nat):HF k j<=1:=by
 unfold HF;cases (k==6&&j==1) <;> simp
section
variable {R:Nat->Option (List PV)}
theorem LW {k i:Int} {n:List UInt8} {a:AV} {rows:List (List PV)} (ha:BP a rows) (j:Nat):AW (env R) 119 [.agg [AD k,SS n,AD i,a],AD j] fun r=>r=AD (HF k j):=by
 refine AN8 (u0:=.agg [AD k,SS n,AD i,a]) (u1:=AD j) (by simp[ha.close]) (AD0 ?_)
 have h2:(((j:Int))==1)=(j==1):=by
  rw[C0,Dv,Dv];omega
 cases h1:(k==6) with
 | false=>
  simp[-beq_iff_eq,ha.ok,h1];refine pz ?_;simp[-beq_iff_eq,QP,QI,HF,h1]
 | true=>
  cases h3:(j==1) with
  | false=>
   rw[h3] at h2;simp[-beq_iff_eq,ha.ok,h1,h2];refine pz ?_;simp[-beq_iff_eq,QP,QI,HF,h3]
  | true=>
   rw[h3] at h2;simp[-beq_iff_eq,QP,QI,ha.ok,h1,h2,HF,h3]
theorem Zk {k i:Int} {n:List UInt8} {ts:List Ty} {a:AV} {u:Nat} (ha:BP a (AQ ts)) (hl:Ac ts<2 ^ 60) (hu:u<2 ^ 60)
  (ih:∀ t∈ts,∀ v,v<=u+1->AW (env R) 141 [.agg ((Ah t).map .pv),AD v] fun r=>r=BB (Dg v t)) {Post:AV->Prop} :
  ∀ (j q:Nat) (m:List (List AV)),q+j=ts.length->Post (BB (Eg u k q (ts.drop q)))->Xv R 0 0 0 (AD u) (.ptr 0 0) a (AD ts.length) (AD q) ⟨[AD k,SS n,AD i,a]::m,[]⟩ (QP Post):=by
 have l5:=Cq ts;intro j
 induction j with
 | zero=>
  intro q m hi hP;refine p9 ?_;have h1:¬ ((q:Int)<ts.length):=by omega
  simp[h1];refine AD1 ?_;have h2:ts.drop q=[]:=Cf (by omega);rw[h2] at hP;simpa[QP,QI,Eg] using hP
 | succ j Gs=>
  intro q m hi hP;refine p9 ?_;have h1:((q:Int)<ts.length):=by omega
  obtain⟨t,ht⟩:∃ t,ts[q]?=some t:=⟨_,Ak (by omega)⟩;have hd:=drop_cons ht;rw[hd] at hP;simp only[Eg] at hP;simp[h1];refine AD2 ?_;refine CS ha (row:=Ah t) (by omega) (by simpa using CA ht) (Am t) (by omega) ?_;have hb:=Su k q;have e3:=ih t (BK ht) (u+HF k q) (by omega);obtain⟨k',n',x,es⟩:=t;simp only[Ah,CI,EM] at e3;simp[Ah,Oz,So,O0,Sq];refine AI (LW ha q) ?_;rintro v rfl;simp only[Dx,xI];refine⟨⟨Al,Al⟩,DX (by omega) (by omega) ?_⟩;have ec:(u:Int)+(HF k q:Int)=((u+HF k q:Nat):Int):=by omega
  rw[ec];refine AI e3 ?_;rintro v rfl;cases hc:Dg (u+HF k q) (.mk k' n' x es) with
  | false=>
   rw[hc] at hP;simp[QP,QI,Cu,L7,VF,JE,LV,Ep];simpa using hP
  | true=>
   rw[hc] at hP;simp[Cu,L7,VF,JE,LV,Ep];refine AD3 ?_;simp only[Dx,xI];refine⟨⟨Al,Al⟩,DX (by omega) (by omega) ?_⟩;have:=Gs (q+1) (m++[[AD k',SS n',AD x,.pv (.list (AQ es))]]) (by omega) (by simpa using hP);simpa using this
mutual
theorem MR:∀ (t:Ty),size t<2 ^ 60->∀ (u:Nat),u+size t<2 ^ 60->∀ (x:AV),Bp t x->AW (env R) 141 [x,AD u] fun r=>r=BB (Dg u t)
 | .mk k n i ts,h,u,hu,x,hx=>by
  obtain⟨a,rfl,ha⟩:=hx;simp only[size] at h hu;have ih:=O1 ts (by omega) (u+1) (by omega)
  suffices H:∀ Post:AV->Prop,Post (BB (Dg u (.mk k n i ts)))->eF R 0 0 0 (.agg [AD k,SS n,AD i,a]) (AD u) ⟨[],[]⟩ (QP Post) from
   AN9 (u0:=.agg [AD k,SS n,AD i,a]) (u1:=AD u) (by simp[ha.close]) (H _ rfl)
  intro Post Qw;refine AD4 ?_;simp only[Dg] at Qw
  have go:Post (BB (Eg u k 0 ts))->eG R 0 0 0 (AD u) (.ptr 0 0) ⟨[[AD k,SS n,AD i,a]],[]⟩ (QP Post):=by
   intro hP;refine AD5 ?_;simp[ha.Bk,Ad];exact Zk (m:=[]) ha (by omega) (by omega) ih ts.length 0 (by omega) (by simpa using hP)
  cases h1:(k==5) with
  | false=>
   rw[h1] at Qw;simp[-beq_iff_eq,ha.ok,h1];exact go (by simpa using Qw)
  | true=>
   rw[h1] at Qw;cases h2:decide ((u:Int)<=i) with
   | true=>
    rw[h2] at Qw;simpa[-beq_iff_eq,-decide_eq_true_eq,QP,QI,ha.ok,h1,h2] using Qw
   | false=>
    rw[h2] at Qw;simp[-beq_iff_eq,-decide_eq_false_iff_not,ha.ok,h1,h2];exact go (by simpa using Qw)
theorem O1:∀ (l:List Ty),Ac l<2 ^ 60->∀ (w:Nat),w+Ac l<2 ^ 60->∀ t∈l,∀ v,v<=w->AW (env R) 141 [.agg ((Ah t).map .pv),AD v] fun r=>r=BB (Dg v t)
 | [],_,_,_,_,h=>by cases h
 | e::l,ho,w,hw,a,h=>by
  simp only[Ac] at ho hw;rcases Av.1 h with h' | h'
  ·rw[h']
   exact fun v hv=>MR e (by omega) v (by omega) _ (Bp.Ci e)
  ·exact O1 l (by omega) w (by omega) a h'
end
end
theorem Sv:∀ l:List Int,IX (A4 l) (A4 l)=true
 | []=>by simp[A4,IX]
 | t::l=>by
  have:=Sv l;simp only[A4] at this;simp[A4,IX,SI,VF,JE,this]
mutual
def plain:Ty->Bool
 | .mk k n i ts=>k==5||Dg 0 (.mk k n i ts)||(k==2&&JZ ts)
def JZ:List Ty->Bool
 | []=>true
 | t::l=>plain t&&JZ l
end
section
variable {R:Nat->Option (List PV)}
theorem qA {f:FuncId} {g:Ty->Bool} {ts:List Ty} {y:AV} (hy:BP y (AQ ts)) (hl:Ac ts<2 ^ 60) (hf:∀ t∈ts,AW (env R) f [.agg ((Ah t).map .pv)] fun r=>r=BB (g t)) {Post:AV->Prop} :
  ∀ (j q:Nat),q+j=ts.length->(∀ i:Int,decide (0<=i)=(ts.drop q).any g->Post (AD i))->P7 R 0 0 0 y (.func (.func f) [] []) (AD ts.length) (AD q) ⟨[],[]⟩ (QP Post):=by
 have l5:=Cq ts;intro j
 induction j with
 | zero=>
  intro q hi hP;refine P8 ?_;have h1:¬ ((q:Int)<ts.length):=by omega
  simp[h1];refine eH ?_;have h2:ts.drop q=[]:=Cf (by omega);rw[h2] at hP;have:=hP (-1) (by simp);simpa[QP,QI] using this
 | succ j Gs=>
  intro q hi hP;refine P8 ?_;have h1:((q:Int)<ts.length):=by omega
  obtain⟨t,ht⟩:∃ t,ts[q]?=some t:=⟨_,Ak (by omega)⟩;have hd:=drop_cons ht;rw[hd] at hP;simp[h1];refine eI ?_;refine CS hy (row:=Ah t) (by omega) (by simpa using CA ht) (Am t) (by omega) ?_;have e3:=hf t (BK ht);cases hg:g t with
  | true=>
   rw[hg] at e3;have:=hP q (by simp[hg]);obtain⟨k',n',x,es⟩:=t;simp only[Ah,CI,EM] at e3;simp[Ah];refine AI e3 ?_;rintro v rfl;simpa[QP,QI] using this
  | false=>
   rw[hg] at e3;simp only[J0,hg,HH] at hP;obtain⟨k',n',x,es⟩:=t;simp only[Ah,CI,EM] at e3;simp[Ah];refine AI e3 ?_;rintro v rfl;simp;refine eJ ?_;simp only[Dx,xI];refine⟨⟨Al,Al⟩,DX (by omega) (by omega) ?_⟩;have:=Gs (q+1) (by omega) hP;simpa using this
theorem Nc {f:FuncId} {g:Ty->Bool} {ts:List Ty} {y:AV} (hy:BP y (AQ ts)) (hl:Ac ts<2 ^ 60) (hf:∀ t∈ts,AW (env R) f [.agg ((Ah t).map .pv)] fun r=>r=BB (g t)) :
  AW (env R) 94 [y,.func (.func f) [] []] fun r=>r=BB (ts.any g):=by
 have hi:AW (env R) 125 [y,.func (.func f) [] []] fun r=>∃ i:Int,r=AD i/\decide (0<=i)=ts.any g:=by
  refine AOA (by simp[BN,hy.Dl,Dl]) (eK ?_);simp[hy.Bk,Ad];exact qA hy hl hf ts.length 0 (by omega) (fun i h=>⟨i,rfl,by simpa using h⟩)
 refine e94 (by simp[BN,hy.Dl,Dl]) (qB ?_);refine AI hi ?_;rintro v ⟨i,rfl,h⟩;simp only[Dx,xI];refine⟨⟨Al,Al⟩,_,Ic,?_⟩;rw[<-h]
mutual
theorem Xw:∀ (t:Ty),size t<2 ^ 38->∀ (x:AV),Bp t x->AW (env R) 161 [x] fun r=>r=BB (plain t)
 | .mk k n i ts,h,x,hx=>by
  obtain⟨a,rfl,ha⟩:=hx;have hs:=h;simp only[size] at h;have ih:=MS k n i ts (by omega) a ha;have hc:AW (env R) 141 [.agg [AD k,SS n,AD i,a],AD 0] fun r=>r=BB (Dg 0 (.mk k n i ts)):=MR (.mk k n i ts) (by omega) 0 (by omega) _ ⟨a,rfl,ha⟩
  refine AOB (u0:=.agg [AD k,SS n,AD i,a]) (by simp[ha.close]) (AD6 ?_);cases h1:(k==5) with
  | true=>simp[-beq_iff_eq,QP,QI,ha.ok,h1,plain]
  | false=>
   simp[-beq_iff_eq,ha.ok,h1];refine AI hc ?_;rintro v rfl;cases h2:Dg 0 (.mk k n i ts) with
   | true=>simp[-beq_iff_eq,QP,QI,h2,plain]
   | false=>
    cases h3:(k==2) with
    | false=>simp[-beq_iff_eq,QP,QI,h1,h2,h3,plain]
    | true=>
     have e2:k=2:=by simpa using h3
     subst e2;simp;refine AI ih ?_;rintro v rfl;cases h4:JZ ts <;> simp[QP,QI,h2,h4,plain]
theorem MS (k:Int) (n:List UInt8) (i:Int):∀ (ts:List Ty),Ac ts<2 ^ 38->∀ (a:AV),BP a (AQ ts)->AW (env R) 140 [.agg [AD k,SS n,AD i,a]] fun r=>r=BB (JZ ts)
 | ts,h,a,ha=>by
  have ih:=Qx ts h;refine AOC (u0:=.agg [AD k,SS n,AD i,a]) (by simp[ha.close]) (AD7 ?_);simp[ha.ok]
  have hf:∀ t∈ts,AW (env R) 160 [.agg ((Ah t).map .pv)] fun r=>r=BB (!plain t):=by
   intro t ht;have e:=ih t ht;refine AOD (by cases t; simp[Ah,BN,Dl]) (AD8 ?_);obtain⟨k',n',x,es⟩:=t;simp only[Ah,CI,EM] at e;simp[Ah];refine AI e ?_;rintro v rfl;simp[QP,QI]
  refine AI (Nc ha (by omega) hf) ?_;rintro v rfl
  have:(!ts.any fun t=>!plain t)=JZ ts:=by
   clear ih hf ha h
   induction ts with
   | nil=>rfl
   | cons t l ih=>simp[JZ,<-ih]
  simp[QP,QI,<-this]
theorem Qx:∀ (l:List Ty),Ac l<2 ^ 38->∀ t∈l,AW (env R) 161 [.agg ((Ah t).map .pv)] fun r=>r=BB (plain t)
 | [],_,_,h=>by cases h
 | e::l,ho,a,h=>by
  simp only[Ac] at ho;rcases Av.1 h with h' | h'
  ·rw[h']
   exact Xw e (by omega) _ (Bp.Ci e)
  ·exact Qx l (by omega) a h'
end
end
def isLet (n:Int):Bool:=(decide (97<=n)&&decide (n<=122))||(decide (65<=n)&&decide (n<=90))
def ic (n:Int):Bool:=decide (48<=n)&&decide (n<=57)
def eM (n:Int):Bool:=isLet n||ic n||n==95||n==45
abbrev BY (n:Int):AV:=.pv (.sc (.int .u8 n))
def Xx (l:List UInt8):Bool:=l != []&&decide (l.length<=24)&&(match l with|[]=>false|c::_=>isLet c.toNat)&&l.all fun c=>!((c.toNat:Int)==45)&&eM c.toNat
def eN:List (List UInt8):=[[65,110,121],[78,101,118,101,114],[116,117,112,108,101],[117,110,105,111,110],[101,120,105,115,116,115]]
section
variable {R:Nat->Option (List PV)}
theorem Qy (n:Int):AW (env R) 155 [BY n] fun r=>r=BB (isLet n):=by
 refine AOE rfl (AD9 ?_)
 by_cases h1:97<=n <;> by_cases h2:n<=122 <;> by_cases h3:65<=n <;> by_cases h4:n<=90 <;> simp[QP,QI,isLet,h1,h2,h3,h4]
theorem eO (n:Int):AW (env R) 173 [BY n] fun r=>r=BB (ic n):=by
 refine AOF rfl (AEA ?_)
 by_cases h1:48<=n <;> by_cases h2:n<=57 <;> simp[QP,QI,ic,h1,h2]
theorem Uv (n:Int):AW (env R) 158 [BY n] fun r=>r=BB (eM n):=by
 refine AOG rfl (AEB ?_);refine AI (Qy n) ?_;rintro v rfl;cases h1:isLet n with
 | true=>simp[QP,QI,eM,h1]
 | false=>
  simp;refine AI (eO n) ?_;rintro v rfl;cases h2:ic n with
  | true=>simp[QP,QI,eM,h2]
  | false=>cases h3:(n==95) <;> cases h4:(n==45) <;> simp[-beq_iff_eq,-beq_eq_false_iff_ne,QP,QI,eM,h1,h2,h3,h4]
theorem Sw (n:Int):AW (env R) 157 [BY n] fun r=>r=BB (!(n==45)&&eM n):=by
 refine AOH rfl (AEC ?_);cases h:(n==45) with
 | true=>simp[-beq_iff_eq,-beq_eq_false_iff_ne,QP,QI,h,bne]
 | false=>
  simp[-beq_iff_eq,-beq_eq_false_iff_ne,h,bne];refine AI (Uv n) ?_;rintro v rfl;simp[-beq_iff_eq,-beq_eq_false_iff_ne,QP,QI]
theorem eP {f:FuncId} {g:Int->Bool} {l:List UInt8} (hl:l.length<2 ^ 60) (hf:∀ n:Int,AW (env R) f [BY n] fun r=>r=BB (g n)) {Post:AV->Prop} :
  ∀ (j q:Nat),q+j=l.length->Post (BB ((l.drop q).all fun c=>g c.toNat))->Xy R 0 0 0 (SS l) (.func (.func f) [] []) (AD q) ⟨[],[]⟩ (QP Post):=by
 intro j
 induction j with
 | zero=>
  intro q hi hP;refine qC ?_;have h1:¬ ((q:Int)<l.length):=by omega
  simp[h1];refine AED ?_;have h2:l.drop q=[]:=Cf (by omega);rw[h2] at hP;simpa[QP,QI] using hP
 | succ j Gs=>
  intro q hi hP;refine qC ?_;have h1:((q:Int)<l.length):=by omega
  obtain⟨c,hc⟩:∃ c,l[q]?=some c:=⟨_,Ak (by omega)⟩;rw[drop_cons hc] at hP;simp[h1];refine AEE ?_;refine⟨by omega,c,by simpa using hc,?_⟩;refine AI (hf c.toNat) ?_;rintro v rfl;cases hg:g c.toNat with
  | true=>
   rw[Ft,hg] at hP;simp;refine AEF ?_;simp only[Dx,xI];refine⟨⟨Al,Al⟩,DX (by omega) (by omega) ?_⟩;have:=Gs (q+1) (by omega) (by simpa using hP);simpa using this
  | false=>
   rw[Ft,hg] at hP;simpa[QP,QI] using hP
theorem Xz {l:List UInt8} (hl:l.length<2 ^ 60):AW (env R) 138 [SS l] fun r=>r=BB (Xx l):=by
 have ev:AW (env R) 156 [SS l,.func (.func 157) [] []] fun r=>r=BB (l.all fun c=>!((c.toNat:Int)==45)&&eM c.toNat):=by
  refine AOI (u0:=SS l) (u1:=.func (.func 157) [] []) (by simp) (AEG ?_);exact eP hl Sw l.length 0 (by omega) (by simp)
 refine AOJ (u0:=SS l) (by simp) (AEH ?_);cases l with
 | nil=>simp[QP,QI,Xx]
 | cons c l=>
  by_cases h1:(c::l).length<=24
  ·have ZP:(((c::l).length:Nat):Int)<=24:=by omega
   have AEI:((l.length:Int)+1<=24):=by simpa using ZP
   simp[AEI,Sx];refine AI (Qy c.toNat) ?_;rintro v rfl;cases h2:isLet c.toNat with
   | false=>simp[QP,QI,Xx,h2]
   | true=>
    simp;refine AI ev ?_;rintro v rfl;have:l.length+1<=24:=by simpa using h1
    simp[QP,QI,Xx,h2,this]
  ·have AEI:¬ ((l.length:Int)+1<=24):=by simp at h1; omega
   have:¬ (l.length+1<=24):=by simpa using h1
   simp[QP,QI,AEI,Xx,this]
def Eh (l:List (List UInt8)):List (List PV):=l.map fun s=>[.sc (.string ⟨s.toArray⟩)]
theorem Zl (l:List (List UInt8)):(Eh l).length=l.length:=by simp[Eh]
theorem Zm {l:List (List UInt8)} {i:Nat} {n:List UInt8} (h:l[i]?=some n):(Eh l)[i]?=some [.sc (.string ⟨n.toArray⟩)]:=by simp[Eh,h]
theorem eR {l:List (List UInt8)} {w:List UInt8} {y:AV} (hy:BP y (Eh l)) (hl:l.length<2 ^ 60) {Post:AV->Prop} :
  ∀ (j q:Nat),q+j=l.length->(∀ i:Int,decide (0<=i)=(l.drop q).contains w->Post (AD i))->X0 R 0 0 0 y (SS w) (AD l.length) (AD q) ⟨[],[]⟩ (QP Post):=by
 intro j
 induction j with
 | zero=>
  intro q hi hP;refine qD ?_;have h1:¬ ((q:Int)<l.length):=by omega
  simp[h1];refine AEJ ?_;have h2:l.drop q=[]:=Cf (by omega);rw[h2] at hP;have:=hP (-1) (by simp);simpa[QP,QI] using this
 | succ j Gs=>
  intro q hi hP;refine qD ?_;have h1:((q:Int)<l.length):=by omega
  obtain⟨t,ht⟩:∃ t,l[q]?=some t:=⟨_,Ak (by omega)⟩;rw[drop_cons ht] at hP;simp[h1];refine AEK ?_;refine CS hy (row:=[.sc (.string ⟨t.toArray⟩)]) (by omega) (by simpa using Zm ht) rfl (by omega) ?_
  by_cases hw:w=t
  ·subst hw
   have:=hP q (by simp);simpa[QP,QI] using this
  ·simp[hw]
   refine AEL ?_;simp only[Dx,xI];refine⟨⟨Al,Al⟩,DX (by omega) (by omega) ?_⟩;have:=Gs (q+1) (by omega) (fun i h=>hP i (by rw[h]; simp[hw]));simpa using this
theorem Sy {l:List (List UInt8)} {w:List UInt8} {y:AV} (hy:BP y (Eh l)) (hl:l.length<2 ^ 60):AW (env R) 139 [y,SS w] fun r=>r=BB (l.contains w):=by
 have hi:AW (env R) 159 [y,SS w] fun r=>∃ i:Int,r=AD i/\decide (0<=i)=l.contains w:=by
  refine AOK (u0:=y) (u1:=SS w) (by simp[hy.close]) (AEM ?_);simp[hy.Bk,Zl];exact eR hy hl l.length 0 (by omega) (fun i h=>⟨i,rfl,by simpa using h⟩)
 refine AOL (u0:=y) (u1:=SS w) (by simp[hy.close]) (AEN ?_);refine AI hi ?_;rintro v ⟨i,rfl,h⟩;simp only[Dx,xI];refine⟨⟨Al,Al⟩,_,Ic,?_⟩;rw[<-h]
end
def eS:List Ty->Bool
 | []=>false
 | t::_=>Dg 0 t
def shape (k:Int) (n:List UInt8) (i:Int) (ts:List Ty):Bool:=
 bif k==0||k==1 then ts.length==0
 else bif k==2 then Xx n&&!eN.contains n&&decide (ts.length<=6)&&JZ ts
 else bif k==3 then decide (ts.length<=6)
 else bif k==4 then decide (2<=ts.length)
 else bif k==5 then ts.length==0&&decide (0<=i)&&decide (i<=200)
 else bif k==6 then ts.length==2&&eS ts
 else false
def root (k:Int) (n:List UInt8) (i:Int) (ts:List Ty):Bool:=(k==2||n==[])&&(k==5||i==0)&&shape k n i ts
mutual
def valid:Ty->Bool
 | .mk k n i ts=>root k n i ts&&Bw ts
def Bw:List Ty->Bool
 | []=>true
 | t::l=>valid t&&Bw l
end
def Zh (n:List UInt8):Prop:=n.length<2 ^ 60
mutual
def eT:Ty->Prop
 | .mk _ n _ ts=>Zh n/\Sz ts
def Sz:List Ty->Prop
 | []=>True
 | t::l=>eT t/\Sz l
end
section
variable {R:Nat->Option (List PV)}
theorem AEO:(env R).G 2=some (FV eN):=rfl
theorem l8:FV eN=[.list (Eh eN)]:=rfl
section
variable {k i:Int} {n:List UInt8} {ts:List Ty} {a:AV} {Post:AV->Prop}
theorem sh0 (ha:BP a (AQ ts)) (hP:Post (BB (ts.length==0))):KS R 0 0 0 (.ptr 0 0) (AD k) (BB true) ⟨[[AD k,SS n,AD i,a]],[]⟩ (QP Post):=by
 refine Nx ⟨fun _=>?_,by simp⟩
 have e:((ts.length:Int)==0)=(ts.length==0):=by
  rw[C0,Dv,Dv];omega
 simpa[-beq_iff_eq,-beq_eq_false_iff_ne,QP,QI,ha.Bk,Ad,e] using hP
theorem sh2 (ha:BP a (AQ ts)) (hs:Ac ts<2 ^ 38) (hn:Zh n) (hP:Post (BB (Xx n&&!eN.contains n&&decide (ts.length<=6)&&JZ ts))) :
  KS R 0 0 0 (.ptr 0 0) (AD 2) (BB false) ⟨[[AD 2,SS n,AD i,a]],[]⟩ (QP Post):=by
 have hlen:=Cq ts;refine Nx ⟨by simp,fun _=>⟨⟨rfl,rfl⟩,⟨fun _=>?_,by simp⟩⟩⟩;simp only[CX,Cx,MP,MQ,AX,Df,Ia,wO,setCells,C2,FA,DN,Ca,Bo,alive,Dx,Hv,KX,nT,Bi,DF,Bz,Ib,Fj,Eo,nU,pY,okB,wX,pZ,wY,pg,wZ,lu,we,wh,wj,wk,wm,wo,wq,wu,wz,w6,w7,okF,w8,w9,xA,xB,xD,Zh,xE,Ur,Us,Ut,Uu,xH,xJ,xK,xN,xO,xQ,xS,xT,xU,xV,Ic,xW,pn,xX,xY,xZ,xd,pq,xe,xg,xh,xj,xk,Cn,xI,xL,xM,xF,xG,g0,g1,lf];simp only[GQ,FN,A3,CJ,Dr];refine⟨Al,AI (Xz hn) ?_⟩;rintro v rfl;cases c1:Xx n with
 | false=>
  rw[c1] at hP;simpa[QP,QI] using hP
 | true=>
  simp[AEO,l8];refine AI (Sy (.list _) (by simp[eN])) ?_;rintro v rfl;cases c2:eN.contains n with
  | true=>
   rw[c1,c2] at hP;simpa[QP,QI] using hP
  | false=>
   rw[c1,c2] at hP
   by_cases c3:ts.length<=6
   ·have c3':((ts.length:Int)<=6):=by omega
    rw[Au c3] at hP;simp[ha.Bk,Ad,c3'];refine AI (MS 2 n i ts hs a ha) ?_;rintro v rfl;simpa[QP,QI] using hP
   ·have c3':¬ ((ts.length:Int)<=6):=by omega
    rw[A9 c3] at hP;simpa[QP,QI,ha.Bk,Ad,c3'] using hP
theorem sh3 (ha:BP a (AQ ts)) (hP:Post (BB (decide (ts.length<=6)))):KS R 0 0 0 (.ptr 0 0) (AD 3) (BB false) ⟨[[AD 3,SS n,AD i,a]],[]⟩ (QP Post):=by
 refine Nx ⟨by simp,fun _=>⟨⟨rfl,rfl⟩,⟨by simp,fun _=>⟨⟨rfl,rfl⟩,⟨fun _=>?_,by simp⟩⟩⟩⟩⟩
 have e:decide ((ts.length:Int)<=6)=decide (ts.length<=6):=by
  rw[C0,Ri,Ri];omega
 simpa[-decide_eq_true_eq,QP,QI,ha.Bk,Ad,e] using hP
theorem sh4 (ha:BP a (AQ ts)) (hP:Post (BB (decide (2<=ts.length)))):KS R 0 0 0 (.ptr 0 0) (AD 4) (BB false) ⟨[[AD 4,SS n,AD i,a]],[]⟩ (QP Post):=by
 refine Nx ⟨by simp,fun _=>⟨⟨rfl,rfl⟩,⟨by simp,fun _=>⟨⟨rfl,rfl⟩,⟨by simp,fun _=>⟨⟨rfl,rfl⟩,⟨fun _=>?_,by simp⟩⟩⟩⟩⟩⟩⟩
 have e:decide (2<=(ts.length:Int))=decide (2<=ts.length):=by
  rw[C0,Ri,Ri];omega
 simpa[-decide_eq_true_eq,QP,QI,ha.Bk,Ad,e] using hP
theorem sh5 (ha:BP a (AQ ts)) (hP:Post (BB (ts.length==0&&decide (0<=i)&&decide (i<=200)))):KS R 0 0 0 (.ptr 0 0) (AD 5) (BB false) ⟨[[AD 5,SS n,AD i,a]],[]⟩ (QP Post):=by
 refine Nx ⟨by simp,fun _=>⟨⟨rfl,rfl⟩,⟨by simp,fun _=>⟨⟨rfl,rfl⟩,⟨by simp,fun _=>⟨⟨rfl,rfl⟩,⟨by simp,fun _=>⟨⟨rfl,rfl⟩,⟨fun _=>?_,by simp⟩⟩⟩⟩⟩⟩⟩⟩⟩;cases ts with
 | cons t l=>
  have c':¬ ((l.length:Int)+1=0):=by omega
  have b':((l.length:Int)+1==0)=false:=by simpa using c'
  simpa[-beq_iff_eq,-beq_eq_false_iff_ne,QP,QI,ha.Bk,Ad,b'] using hP
 | nil=>
  by_cases c1:0<=i
  ·by_cases c2:i<=200
   ·simpa[QP,QI,ha.Bk,Ad,c1,c2] using hP
   ·simpa[QP,QI,ha.Bk,Ad,c1,c2] using hP
  ·simpa[QP,QI,ha.Bk,Ad,c1] using hP
theorem sh6 (ha:BP a (AQ ts)) (hs:Ac ts<2 ^ 38) (hP:Post (BB (ts.length==2&&eS ts))):KS R 0 0 0 (.ptr 0 0) (AD 6) (BB false) ⟨[[AD 6,SS n,AD i,a]],[]⟩ (QP Post):=by
 refine Nx ⟨by simp,fun _=>⟨⟨rfl,rfl⟩,⟨by simp,fun _=>⟨⟨rfl,rfl⟩,⟨by simp,fun _=>⟨⟨rfl,rfl⟩,⟨by simp,fun _=>⟨⟨rfl,rfl⟩,⟨by simp,fun _=>⟨⟨rfl,rfl⟩,⟨fun _=>?_,by simp⟩⟩⟩⟩⟩⟩⟩⟩⟩⟩⟩
 by_cases c:ts.length=2
 ·have c':((ts.length:Int)=2):=by omega
  obtain⟨t,l,rfl⟩:∃ t l,ts=t::l:=by
   cases ts with
   | nil=>simp at c
   | cons t l=>exact⟨t,l,rfl⟩
  simp only[Ac] at hs;have e3:AW (env R) 141 [.agg ((Ah t).map .pv),AD 0] fun r=>r=BB (Dg 0 t):=MR t (by omega) 0 (by omega) _ (Bp.Ci t)
  have hP':Post (BB (Dg 0 t)):=by
   have:l.length=1:=by simpa using c
   simpa[this,eS] using hP
  have c'':((l.length:Int)+1=2):=by simpa using c'
  simp[ha.Bk,Ad,c''];refine CS ha (row:=Ah t) (by omega) (by simp[AQ]) (Am t) (by omega) ?_;obtain⟨k',n',x,es⟩:=t;simp only[Ah,CI,EM] at e3;simp[Ah];refine AI e3 ?_;rintro v rfl;simpa[QP,QI] using hP'
 ·have c':¬ ((ts.length:Int)=2):=by omega
  have b:(ts.length==2)=false:=by simpa using c
  rw[b] at hP;have b':((ts.length:Int)==2)=false:=by simpa using c'
  simpa[-beq_iff_eq,-beq_eq_false_iff_ne,QP,QI,ha.Bk,Ad,b'] using hP
theorem sh7 (h2:¬ k=2) (h3:¬ k=3) (h4:¬ k=4) (h5:¬ k=5) (h6:¬ k=6) (hP:Post (BB false)):KS R 0 0 0 (.ptr 0 0) (AD k) (BB false) ⟨[[AD k,SS n,AD i,a]],[]⟩ (QP Post):=by
 refine Nx ⟨by simp,fun _=>⟨⟨rfl,rfl⟩,⟨by simp[h2],fun _=>⟨⟨rfl,rfl⟩,⟨by simp[h3],fun _=>⟨⟨rfl,rfl⟩,⟨by simp[h4],fun _=>⟨⟨rfl,rfl⟩,⟨by simp[h5],fun _=>⟨⟨rfl,rfl⟩,⟨by simp[h6],fun _=>AEP ?_⟩⟩⟩⟩⟩⟩⟩⟩⟩⟩⟩;exact⟨_,Ic,hP⟩
theorem LX (ha:BP a (AQ ts)) (hs:Ac ts<2 ^ 38) (hn:Zh n) (hP:Post (BB (shape k n i ts))):eU R 0 0 0 (.ptr 0 0) ⟨[[AD k,SS n,AD i,a]],[]⟩ (QP Post):=by
 refine AEQ ?_
 by_cases h0:k=0
 ·subst h0
  simp;exact sh0 ha (by simpa[shape] using hP)
 by_cases h1:k=1
 ·subst h1
  simp;exact sh0 ha (by simpa[shape] using hP)
 have b0:(k==0)=false:=by simpa using h0
 have b1:(k==1)=false:=by simpa using h1
 simp[h0];have e:(BB (k==1):AV)=BB false:=by rw[b1]
 rw[e]
 by_cases h2:k=2
 ·subst h2
  exact sh2 ha hs hn (by simpa[shape] using hP)
 by_cases h3:k=3
 ·subst h3
  exact sh3 ha (by simpa[shape] using hP)
 by_cases h4:k=4
 ·subst h4
  exact sh4 ha (by simpa[shape] using hP)
 by_cases h5:k=5
 ·subst h5
  exact sh5 ha (by simpa[shape] using hP)
 by_cases h6:k=6
 ·subst h6
  exact sh6 ha hs (by simpa[shape] using hP)
 have b2:(k==2)=false:=by simpa using h2
 have b3:(k==3)=false:=by simpa using h3
 have b4:(k==4)=false:=by simpa using h4
 have b5:(k==5)=false:=by simpa using h5
 have b6:(k==6)=false:=by simpa using h6
 rw[show shape k n i ts=false by simp only[shape,b0,b1,b2,b3,b4,b5,b6]; rfl] at hP;exact sh7 h2 h3 h4 h5 h6 hP
end
theorem S0 {k i:Int} {n:List UInt8} {ts:List Ty} {a:AV} (ha:BP a (AQ ts)) (hs:Ac ts<2 ^ 38) (hn:Zh n):AW (env R) 116 [.agg [AD k,SS n,AD i,a]] fun r=>r=BB (root k n i ts):=by
 suffices H:∀ Post:AV->Prop,Post (BB (root k n i ts))->eV R 0 0 0 (.agg [AD k,SS n,AD i,a]) ⟨[],[]⟩ (QP Post) from
  AON (u0:=.agg [AD k,SS n,AD i,a]) (by simp[ha.close]) (H _ rfl)
 intro Post hP;refine AER ?_;unfold root at hP;cases b2:(k==2) with
 | true=>
  have e2:k=2:=by simpa using b2
  subst e2
  by_cases hi:i=0
  ·subst hi
   simp[ha.ok];exact LX ha hs hn (by simpa using hP)
  ·have bi:(i==0)=false:=by simpa using hi
   rw[bi] at hP;simpa[QP,QI,ha.ok,hi,bne,bi] using hP
 | false=>
  have e2:¬ k=2:=by simpa using b2
  rw[b2] at hP
  by_cases hn0:n=[]
  ·subst hn0
   cases b5:(k==5) with
   | true=>
    have e5:k=5:=by simpa using b5
    subst e5;simp[ha.ok];exact LX ha hs hn (by simpa using hP)
   | false=>
    have e5:¬ k=5:=by simpa using b5
    rw[b5] at hP
    by_cases hi:i=0
    ·subst hi
     simp[ha.ok,e2,e5,bne,b2,b5];exact LX ha hs hn (by simpa using hP)
    ·have bi:(i==0)=false:=by simpa using hi
     rw[bi] at hP;simpa[QP,QI,ha.ok,e2,e5,hi,bne,b2,b5,bi] using hP
  ·have bn:(n==[])=false:=by simpa using hn0
   rw[bn] at hP;simpa[QP,QI,ha.ok,e2,hn0,bne,b2,bn] using hP
end
def verdict (t:Ty):Int:=bif decide (200<size t)||decide (12<depth t) then 4 else bif valid t then 0 else 2
section
variable {R:Nat->Option (List PV)}
mutual
theorem Lr:∀ (t:Ty),size t<2 ^ 38->eT t->∀ (x:AV),Bp t x->AW (env R) 86 [x] fun r=>r=BB (valid t)
 | .mk k n i ts,h,ho,x,hx=>by
  obtain⟨a,rfl,ha⟩:=hx;simp only[size] at h;simp only[eT] at ho;have ih:=Ko ts (by omega) ho.2;refine e86 (u0:=.agg [AD k,SS n,AD i,a]) (by simp[ha.close]) (AIJ ?_);simp[ha.ok];refine AI (S0 ha (by omega) ho.1) ?_;rintro v rfl;cases hr:root k n i ts with
  | false=>simp[QP,QI,valid,hr]
  | true=>
   have hf:∀ t∈ts,AW (env R) 117 [.agg ((Ah t).map .pv)] fun r=>r=BB (!valid t):=by
    intro t ht;have e:=ih t ht;refine AOO (by cases t; simp[Ah,BN,Dl]) (AES ?_);obtain⟨k',n',x,es⟩:=t;simp only[Ah,CI,EM] at e;simp[Ah];refine AI e ?_;rintro v rfl;simp[QP,QI]
   simp;refine AI (Nc ha (by omega) hf) ?_;rintro v rfl
   have:(!ts.any fun t=>!valid t)=Bw ts:=by
    clear ih hf ha h hr ho
    induction ts with
    | nil=>rfl
    | cons t l ih=>simp[Bw,<-ih]
   simp[QP,QI,valid,hr,<-this]
theorem Ko:∀ (l:List Ty),Ac l<2 ^ 38->Sz l->∀ t∈l,AW (env R) 86 [.agg ((Ah t).map .pv)] fun r=>r=BB (valid t)
 | [],_,_,_,h=>by cases h
 | e::l,ho,hk,a,h=>by
  simp only[Ac] at ho;simp only[Sz] at hk;rcases Av.1 h with h' | h'
  ·rw[h']
   exact Lr e (by omega) hk.1 _ (Bp.Ci e)
  ·exact Ko l (by omega) hk.2 a h'
end
end
abbrev ph (v:Nat):Ty:=.mk 7 [] v []
abbrev var (i:Int):Ty:=.mk 5 [] i []
def hole:Int:=1073741824
structure Br where
 bounds:List Ty
 body:Ty
def Zn {α:Type} (d:α) (g:Ty->Ty->α):List Ty->α
 | [b,body]=>g b body
 | _=>d
mutual
def CD (f:Int->Ty):Ty->Ty
 | .mk k n i ts=>bif k==5 then f i else bif k==2||k==3 then .mk k n i (Cl f ts) else .mk k n i ts
def Cl (f:Int->Ty):List Ty->List Ty
 | []=>[]
 | t::l=>CD f t::Cl f l
end
def Jt (n:Nat):Ty->Ty:=CD fun i=>bif decide (0<=i)&&!(i==hole) then var (i+n) else var i
def yj:Ty->Ty:=CD fun i=>var (-1-i)
def Rv (n:Nat):Ty->Ty:=CD fun i=>bif i==-1 then var n else bif decide (i<0) then var (i+1) else var i
def UU (n m:Int):Ty->Ty:=CD fun i=>bif i==n then var m else var i
mutual
def oA (p:Int->Bool):Ty->Bool
 | .mk k _ i ts=>bif k==5 then p i else k==2&&eW p ts
def eW (p:Int->Bool):List Ty->Bool
 | []=>false
 | t::l=>oA p t||eW p l
end
mutual
def oI (p:Int->Bool):Ty->Bool
 | .mk k n i ts=>bif k==2 then oA p (.mk k n i ts) else k==3&&S1 p ts
def S1 (p:Int->Bool):List Ty->Bool
 | []=>false
 | t::l=>oI p t||S1 p l
end
mutual
def Ap:Ty->List Int
 | .mk k _ i ts=>bif k==5 then [i] else bif k==3 then CQ ts else []
def CQ:List Ty->List Int
 | []=>[]
 | t::l=>Ap t++CQ l
end
mutual
def Qz (b:Ty):Ty->Nat->Ty
 | .mk c n i ts,k=>bif c==5 then(bif k==0 then b else .mk c n i ts) else bif c==3 then .mk c n i (Lv b ts k) else .mk c n i ts
def Lv (b:Ty):List Ty->Nat->List Ty
 | [],_=>[]
 | t::l,k=>bif decide (k<(Ap t).length) then Qz b t k::l else t::Lv b l (k-(Ap t).length)
end
def KG (b:Ty):Option Nat:=(Ap b).findIdx? (·==hole)
def F0 (b:Br) (k:Nat) (c:Br):Br:=⟨b.bounds++c.bounds,Qz (Jt b.bounds.length c.body) b.body k⟩
section
variable (Ai:Nat->Bool)
def O2 {α β:Type} (g:α->Option (List β)):List α->List β->Option (List β)
 | [],out=>some out
 | a::l,out=>match g a with
  | none=>none
  | some r=>bif Ai (out++r).length then none else O2 g l (out++r)
def Iz (l:List Br):Nat->Br->Option (List Br)
 | 0,b=>some [b]
 | f+1,b=>match KG b.body with
  | none=>some [b]
  | some k=>O2 Ai (fun c=>Iz l f (F0 b k c)) l []
def LY (cr:Option (List Br)) (bound:Ty) (b:Br):Option (List Br):=
 bif oI (·==(b.bounds.length:Int)) (Rv b.bounds.length b.body) then some [⟨b.bounds++[bound],Rv b.bounds.length b.body⟩]
 else match KG (UU b.bounds.length hole (Rv b.bounds.length b.body)) with
  | none=>some [⟨b.bounds,UU b.bounds.length hole (Rv b.bounds.length b.body)⟩]
  | some _=>match cr with
   | none=>none
   | some l=>Iz Ai l (Ap b.body).length ⟨b.bounds,UU b.bounds.length hole (Rv b.bounds.length b.body)⟩
def Ja (out:List Br) (l:List Br):List Br:=out.flatMap fun b=>l.map fun c=>⟨b.bounds++c.bounds,match b.body with
 | .mk _ _ _ args=>.mk 3 [] 0 (args++[Jt b.bounds.length c.body])⟩
def NI:List (List Br)->List Br->Option (List Br)
 | [],out=>some out
 | l::ls,out=>bif Ai (Ja out l).length then none else NI ls (Ja out l)
def Hw {α:Type}:List (Option α)->Option (List α)
 | []=>some []
 | none::_=>none
 | some a::l=>match Hw l with
  | none=>none
  | some r=>some (a::r)
def Gi:Nat->Ty->Option (List Br)
 | 0,_=>none
 | f+1,.mk k n i ts=>
  bif k==0 then some [⟨[],.mk k n i ts⟩]
  else bif k==2||k==5 then some [⟨[],yj (.mk k n i ts)⟩]
  else bif k==3 then match Hw (ts.map (Gi f)) with
   | none=>none
   | some ls=>bif ls.any List.isEmpty then some [] else NI Ai ls [⟨[],.mk 3 [] 0 []⟩]
  else bif k==4 then match Hw (ts.map (Gi f)) with
   | none=>none
   | some ls=>bif Ai ls.flatten.length then none else some ls.flatten
  else bif k==6 then Zn (some []) (fun b body=>match Gi f body with
    | none=>none
    | some l=>O2 Ai (LY Ai (Gi f b) b) l []) ts
  else some []
mutual
def sub (v:Nat) (u:Nat):Ty->Ty
 | .mk k n i ts=>bif k==5 then(bif i==(u:Int) then ph v else bif decide ((u:Int)<i) then .mk k n (i-1) ts else .mk k n i ts) else .mk k n i (KT v u k 0 ts)
def KT (v:Nat) (u:Nat) (k:Int) (j:Nat):List Ty->List Ty
 | []=>[]
 | t::l=>sub v (u+HF k j) t::KT v u k (j+1) l
end
mutual
def C6 (v:Nat) (inv:Bool):Ty->Bool
 | .mk k _ i ts=>bif k==7 then i==(v:Int)&&!inv else GD v (inv&&!(k==2)) ts
def GD (v:Nat) (inv:Bool):List Ty->Bool
 | []=>false
 | t::l=>C6 v inv t||GD v inv l
end
mutual
def BF (m:Int->Bool):Ty->Nat
 | .mk k _ i ts=>bif k==7 then(bif m i then 1 else 0) else bif k==3 then CP m ts else 0
def CP (m:Int->Bool):List Ty->Nat
 | []=>0
 | t::l=>BF m t+CP m l
end
mutual
def KU (m:Int->Bool) (b:Ty):Ty->Nat->Ty
 | .mk c n i ts,k=>bif c==7 then(bif m i&&k==0 then b else .mk c n i ts) else bif c==3 then .mk c n i (Jv m b ts k) else .mk c n i ts
def Jv (m:Int->Bool) (b:Ty):List Ty->Nat->List Ty
 | [],_=>[]
 | t::l,k=>bif decide (k<BF m t) then KU m b t k::l else t::Jv m b l (k-BF m t)
end
abbrev GF:=Option (List Ty)×List Ty
def CN {α:Type} (g:α->List Ty->GF):List α->List Ty->List Ty->GF
 | [],out,B=>(some out,B)
 | a::l,out,B=>match g a B with
  | (none,B)=>(none,B)
  | (some r,B)=>bif Ai (out++r).length then(none,B) else CN g l (out++r) B
def B8 (ex:List Ty->GF) (v:Nat):Nat->Ty->List Ty->GF
 | 0,t,B=>(some [t],B)
 | f+1,t,B=>bif C6 v false t then match ex B with
   | (none,B)=>(none,B)
   | (some cs,B)=>CN Ai (fun c B=>B8 ex v f (KU (·==(v:Int)) c t 0) B) cs [] B
  else(some [t],B)
def BX (ex:List Ty->GF) (v:Nat) (t:Ty) (B:List Ty):GF:=
 bif C6 v true t then(some [t],B) else B8 Ai ex v (BF (·==(v:Int)) t) t B
def DG:List (List Ty)->List (List Ty)->Option (List (List Ty))
 | [],out=>some out
 | l::ls,out=>bif Ai (out.flatMap fun p=>l.map fun x=>p++[x]).length then none else DG ls (out.flatMap fun p=>l.map fun x=>p++[x])
def FH (ex:Ty->List Ty->GF):List Ty->List Ty->Bool->List Ty->(List Ty×Bool)×List Ty
 | [],out,ok,B=>((out,ok),B)
 | t::l,out,ok,B=>match ex t B with
  | (none,B)=>FH ex l out false B
  | (some r,B)=>FH ex l (out++r) ok B
def Er (ex:Ty->List Ty->GF):List Ty->List (List Ty)->List Ty->Option (List (List Ty))×List Ty
 | [],out,B=>(some out,B)
 | t::l,out,B=>match ex t B with
  | (none,B)=>(none,B)
  | (some r,B)=>Er ex l (out++[r]) B
def Aj:Nat->Ty->List Ty->GF
 | 0,_,B=>(none,B)
 | f+1,.mk k n i ts,B=>
  bif k==0||k==2||k==7 then(bif Ai 1 then none else some [.mk k n i ts],B)
  else bif k==4 then match FH (Aj f) ts [] true B with
   | ((out,ok),B)=>(bif ok&&!Ai out.length then some out else none,B)
  else bif k==3 then match Er (Aj f) ts [] B with
   | (none,B)=>(none,B)
   | (some ls,B)=>bif ls.any List.isEmpty then(some [],B) else match DG Ai ls [[]] with
    | none=>(none,B)
    | some all=>(bif Ai all.length then none else some (all.map (.mk 3 [] 0)),B)
  else bif k==6 then Zn (some [],B) (fun b body=>match Aj f (sub B.length 0 body) (B++[b]) with
    | (none,B1)=>(none,B1)
    | (some l,B1)=>match CN Ai (BX Ai (Aj f b) B.length) l [] B1 with
     | (none,B2)=>(none,B2)
     | (some out,B2)=>(bif Ai out.length then none else some out,B2)) ts
  else(bif Ai 0 then none else some [],B)
end
mutual
def vis:Ty->List Int
 | .mk k _ i ts=>bif k==5 then [i] else bif k==2||k==3 then Et ts else []
def Et:List Ty->List Int
 | []=>[]
 | t::l=>vis t++Et l
end
def Q0 (t:Ty):Bool:=valid t&&Dg 0 t
mutual
def pl:Ty->Bool
 | .mk k n i ts=>bif k==5 then n==[]&&ts.isEmpty else bif k==2 then Uw ts else Q0 (.mk k n i ts)
def Uw:List Ty->Bool
 | []=>true
 | t::l=>pl t&&Uw l
end
mutual
def bd:Ty->Bool
 | .mk k n i ts=>bif k==5 then n==[]&&ts.isEmpty else bif k==2 then Uw ts else bif k==3 then Mz ts else Q0 (.mk k n i ts)
def Mz:List Ty->Bool
 | []=>true
 | t::l=>bd t&&Mz l
end
theorem ie {k i:Int} {n:List UInt8} {ts:List Ty} (hk:k≠6) (h:Q0 (.mk k n i ts)=true):∀ t∈ts,Q0 t=true:=by
 unfold Q0 at h;simp only[AG,valid,Dg] at h;obtain⟨⟨_,h1⟩,h2⟩:=h
 have h3:Eg 0 k 0 ts=true:=by
  cases hb:(k==5&&decide (((0:Nat):Int)<=i)) with
  | true=>rw[hb] at h2; simp at h2
  | false=>rw[hb] at h2; simpa using h2
 have k6:(k==6)=false:=by simpa using hk
 have hb:∀ j,HF k j=0:=fun j=>by simp[HF,k6]
 have:∀ (l:List Ty) (j:Nat),Bw l=true->Eg 0 k j l=true->∀ t∈l,Q0 t=true:=by
  intro l
  induction l with
  | nil=>intro j _ _ t ht; cases ht
  | cons a l ih=>
   intro j hv hc t ht;simp only[Bw,Eg,AG,hb] at hv hc;rcases Av.1 ht with rfl|ht
   ·simp[Q0,hv.1,hc.1]
   ·exact ih _ hv.2 hc.2 t ht
 exact this ts 0 h1 h3
theorem S2 {k i:Int} {n:List UInt8} {ts:List Ty} (h:Q0 (.mk k n i ts)=true):k≠5/\k≠7:=by
 unfold Q0 at h;simp only[AG,valid,Dg,root,shape] at h;constructor
 ·rintro rfl
  have h1:=h.1.1.2;have h2:=h.2;simp at h1 h2;omega
 ·rintro rfl
  simp at h
mutual
theorem LZ:∀ (t:Ty) (f:Int->Ty),Q0 t=true->CD f t=t
 | .mk k n i ts,f,h=>by
  have hk:=S2 h;have b5:(k==5)=false:=by simpa using hk.1
  rw[CD,b5];simp only[AB];cases b:(k==2||k==3) with
  | false=>rfl
  | true=>
   have Ux:k≠6:=by rintro rfl; simp at b
   simp only[AE];rw[Zo ts f (ie Ux h)]
theorem Zo:∀ (l:List Ty) (f:Int->Ty),(∀ t∈l,Q0 t=true)->Cl f l=l
 | [],_,_=>rfl
 | t::l,f,h=>by
  rw[Cl,LZ t f (h t (by simp)),Zo l f fun t ht=>h t (Du _ ht)]
end
mutual
theorem eX:∀ (t:Ty),Q0 t=true->vis t=[]
 | .mk k n i ts,h=>by
  have hk:=S2 h;have b5:(k==5)=false:=by simpa using hk.1
  rw[vis,b5];simp only[AB];cases b:(k==2||k==3) with
  | false=>rfl
  | true=>
   have Ux:k≠6:=by rintro rfl; simp at b
   simp only[AE];exact ig ts (ie Ux h)
theorem ig:∀ (l:List Ty),(∀ t∈l,Q0 t=true)->Et l=[]
 | [],_=>rfl
 | t::l,h=>by
  rw[Et,eX t (h t (by simp)),ig l fun t ht=>h t (Du _ ht)];rfl
end
mutual
theorem Hx (f:Int->Ty) (g:Int->Int):∀ t:Ty,CD f (CD (fun i=>var (g i)) t)=CD (fun i=>f (g i)) t
 | .mk k n i ts=>by
  rw[CD,CD];cases b5:(k==5) with
  | true=>simp[CD]
  | false=>
   cases b:(k==2||k==3) with
   | false=>simp[CD,b5,b]
   | true=>simp only[AB,AE,CD,b5,b,S3 f g ts]
theorem S3 (f:Int->Ty) (g:Int->Int):∀ l:List Ty,Cl f (Cl (fun i=>var (g i)) l)=Cl (fun i=>f (g i)) l
 | []=>rfl
 | t::l=>by simp only[Cl,Hx f g t,S3 f g l]
end
mutual
theorem Eu {f g:Int->Ty}:∀ (t:Ty),(∀ i∈vis t,f i=g i)->CD f t=CD g t
 | .mk k n i ts,h=>by
  rw[CD,CD];rw[vis] at h;cases b5:(k==5) with
  | true=>
   rw[b5] at h;simpa using h
  | false=>
   rw[b5] at h;cases b:(k==2||k==3) with
   | false=>rfl
   | true=>
    rw[b] at h;simp only[AB,AE] at h ⊢;rw[Q1 ts h]
theorem Q1 {f g:Int->Ty}:∀ (l:List Ty),(∀ i∈Et l,f i=g i)->Cl f l=Cl g l
 | [],_=>rfl
 | t::l,h=>by
  simp only[Et,BL] at h;rw[Cl,Cl,Eu t fun i hi=>h i (.inl hi),Q1 l fun i hi=>h i (.inr hi)]
end
mutual
theorem M0 (g:Int->Int):∀ t:Ty,vis (CD (fun i=>var (g i)) t)=(vis t).map g
 | .mk k n i ts=>by
  rw[CD,vis];cases b5:(k==5) with
  | true=>simp[vis]
  | false=>
   cases b:(k==2||k==3) with
   | false=>simp[vis,b5,b]
   | true=>simp only[AB,AE,vis,b5,b,Zp g ts]
theorem Zp (g:Int->Int):∀ l:List Ty,Et (Cl (fun i=>var (g i)) l)=(Et l).map g
 | []=>rfl
 | t::l=>by simp only[Cl,Et,M0 g t,Zp g l,Mk]
end
mutual
theorem Ei (g:Int->Int):∀ t:Ty,Ap (CD (fun i=>var (g i)) t)=(Ap t).map g
 | .mk k n i ts=>by
  rw[CD,Ap];cases b5:(k==5) with
  | true=>simp[Ap]
  | false=>
   cases b3:(k==3) with
   | true=>simp only[AB,AE,Ap,b5,b3,EN,VZ g ts]
   | false=>
    cases b2:(k==2) <;> simp[Ap,b5,b3]
theorem VZ (g:Int->Int):∀ l:List Ty,CQ (Cl (fun i=>var (g i)) l)=(CQ l).map g
 | []=>rfl
 | t::l=>by simp only[Cl,CQ,Ei g t,VZ g l,Mk]
end
mutual
theorem O3:∀ (t:Ty),∀ i∈Ap t,i∈vis t
 | .mk k n i ts=>by
  rw[Ap,vis];cases b5:(k==5) with
  | true=>simp
  | false=>
   cases b3:(k==3) with
   | true=>simpa using Va ts
   | false=>simp
theorem Va:∀ (l:List Ty),∀ i∈CQ l,i∈Et l
 | []=>by simp[CQ]
 | t::l=>by
  intro i hi;simp only[CQ,Et,BL] at hi ⊢;rcases hi with hi|hi
  ·exact .inl (O3 t i hi)
  ·exact .inr (Va l i hi)
end
mutual
theorem qE (p:Int->Bool) (g:Int->Int):∀ t:Ty,pl t=true->oA p (CD (fun i=>var (g i)) t)=oA (fun i=>p (g i)) t
 | .mk k n i ts,h=>by
  rw[CD,oA];cases b5:(k==5) with
  | true=>simp[oA]
  | false=>
   cases b2:(k==2) with
   | true=>
    rw[pl,b5,b2] at h;simp only[AB,AE] at h;simp only[AB,AE,oA,b5,b2,D0,Ec,ij p g ts h]
   | false=>
    cases b3:(k==3) <;> simp[oA,b5,b2]
theorem ij (p:Int->Bool) (g:Int->Int):∀ l:List Ty,Uw l=true->eW p (Cl (fun i=>var (g i)) l)=eW (fun i=>p (g i)) l
 | [],_=>rfl
 | t::l,h=>by
  simp only[Uw,AG] at h;simp only[Cl,eW,qE p g t h.1,ij p g l h.2]
end
mutual
theorem Zq {p q:Int->Bool}:∀ t:Ty,(∀ i∈vis t,p i=q i)->oA p t=oA q t
 | .mk k n i ts,h=>by
  rw[vis] at h;rw[oA,oA];cases b5:(k==5) with
  | true=>rw[b5] at h; simpa using h
  | false=>
   rw[b5] at h;cases b2:(k==2) with
   | false=>simp
   | true=>
    rw[b2] at h;simp only[AB,AE,D0] at h ⊢;rw[Vb ts h]
theorem Vb {p q:Int->Bool}:∀ l:List Ty,(∀ i∈Et l,p i=q i)->eW p l=eW q l
 | [],_=>rfl
 | t::l,h=>by
  simp only[Et,BL] at h;rw[eW,eW,Zq t fun i hi=>h i (.inl hi),Vb l fun i hi=>h i (.inr hi)]
end
mutual
theorem S4 {p q:Int->Bool}:∀ t:Ty,(∀ i∈vis t,p i=q i)->oI p t=oI q t
 | .mk k n i ts,h=>by
  have h0:=Zq (.mk k n i ts) h;rw[vis] at h;rw[oI,oI];cases b2:(k==2) with
  | true=>simpa using h0
  | false=>
   cases b3:(k==3) with
   | false=>simp
   | true=>
    have b5:(k==5)=false:=by
     have:k=3:=by simpa using b3
     subst this; rfl
    rw[b5,b3] at h;simp only[AB,AE,EN] at h;simp only[AB,Ec];exact Vc ts h
theorem Vc {p q:Int->Bool}:∀ l:List Ty,(∀ i∈Et l,p i=q i)->S1 p l=S1 q l
 | [],_=>rfl
 | t::l,h=>by
  simp only[Et,BL] at h;rw[S1,S1,S4 t fun i hi=>h i (.inl hi),Vc l fun i hi=>h i (.inr hi)]
end
mutual
theorem AET (g:Int->Int):∀ t:Ty,pl t=true->pl (CD (fun i=>var (g i)) t)=true
 | .mk k n i ts,h=>by
  rw[CD];cases b5:(k==5) with
  | true=>simp[pl]
  | false=>
   cases b2:(k==2) with
   | true=>
    rw[pl,b5,b2] at h;simp only[AB,AE] at h;simp only[AB,AE,D0,pl,b5,b2,X1 g ts h]
   | false=>
    have hc:Q0 (.mk k n i ts)=true:=by
     rw[pl,b5,b2] at h;simpa using h
    have e:=LZ (.mk k n i ts) (fun i=>var (g i)) hc;rw[CD,b5,b2] at e;rw[e];exact h
theorem X1 (g:Int->Int):∀ l:List Ty,Uw l=true->Uw (Cl (fun i=>var (g i)) l)=true
 | [],_=>rfl
 | t::l,h=>by
  simp only[Uw,AG] at h;simp only[Cl,Uw,AET g t h.1,X1 g l h.2,GR]
end
mutual
theorem P9 (g:Int->Int):∀ t:Ty,bd t=true->bd (CD (fun i=>var (g i)) t)=true
 | .mk k n i ts,h=>by
  rw[CD];cases b5:(k==5) with
  | true=>simp[bd]
  | false=>
   cases b2:(k==2) with
   | true=>
    rw[bd,b5,b2] at h;simp only[AB,AE] at h;simp only[AB,AE,D0,bd,b5,b2,X1 g ts h]
   | false=>
    cases b3:(k==3) with
    | true=>
     rw[bd,b5,b2,b3] at h;simp only[AB,AE] at h;simp only[AB,AE,EN,bd,b5,b2,b3,iq g ts h]
    | false=>
     simp only[AB,Fu];exact h
theorem iq (g:Int->Int):∀ l:List Ty,Mz l=true->Mz (Cl (fun i=>var (g i)) l)=true
 | [],_=>rfl
 | t::l,h=>by
  simp only[Mz,AG] at h;simp only[Cl,Mz,P9 g t h.1,iq g l h.2,GR]
end
mutual
theorem qG (p:Int->Bool) (g:Int->Int):∀ t:Ty,bd t=true->oI p (CD (fun i=>var (g i)) t)=oI (fun i=>p (g i)) t
 | .mk k n i ts,h=>by
  cases b2:(k==2) with
  | true=>
   have h2:k=2:=by simpa using b2
   subst h2
   have hp:pl (.mk 2 n i ts)=true:=by
    rw[bd] at h;rw[pl];simpa using h
   have:=qE p g (.mk 2 n i ts) hp;simp only[CD] at this ⊢;simpa[oI] using this
  | false=>
   rw[CD,oI];cases b5:(k==5) with
   | true=>
    have:k=5:=by simpa using b5
    subst this;simp[oI]
   | false=>
    cases b3:(k==3) with
    | true=>
     rw[bd,b5,b2,b3] at h;simp only[AB,AE] at h;simp only[AB,AE,EN,oI,b2,b3,Ec,ir p g ts h]
    | false=>simp[oI,b2,b3]
theorem ir (p:Int->Bool) (g:Int->Int):∀ l:List Ty,Mz l=true->S1 p (Cl (fun i=>var (g i)) l)=S1 (fun i=>p (g i)) l
 | [],_=>rfl
 | t::l,h=>by
  simp only[Mz,AG] at h;simp only[Cl,S1,qG p g t h.1,ir p g l h.2]
end
theorem Jb {k i:Int} {n:List UInt8} {ts:List Ty} (h:valid (.mk k n i ts)=true):k≠7:=by
 simp only[valid,AG,root,shape] at h;rintro rfl;simp at h
mutual
theorem La (v:Nat):∀ (t:Ty) (inv:Bool),valid t=true->C6 v inv t=false
 | .mk k n i ts,inv,h=>by
  have b7:(k==7)=false:=by simpa using Jb h
  simp only[valid,AG] at h;rw[C6,b7];simp only[AB];exact Q2 v ts _ h.2
theorem Q2 (v:Nat):∀ (l:List Ty) (inv:Bool),Bw l=true->GD v inv l=false
 | [],_,_=>rfl
 | t::l,inv,h=>by
  simp only[Bw,AG] at h;rw[GD,La v t inv h.1,Q2 v l inv h.2];rfl
end
theorem M1 {t:Ty} (h:Q0 t=true):valid t=true:=by
 unfold Q0 at h;simp only[AG] at h;exact h.1
section
variable (φ:Int->Nat)
abbrev tr (b:Ty):Ty:=CD (fun i=>ph (φ i)) b
abbrev Rw (l:List Ty):List Ty:=Cl (fun i=>ph (φ i)) l
mutual
theorem yl (v:Nat):∀ b:Ty,pl b=true->C6 v false (tr φ b)=oA (fun i=>φ i==v) b
 | .mk k n i ts,h=>by
  rw[tr,CD,oA];cases b5:(k==5) with
  | true=>
   simp only[AE];rw[C6]
   have:(((φ i:Nat):Int)==(v:Int))=(φ i==v):=by
    rw[C0,Dv,Dv];omega
   simp[this]
  | false=>
   cases b2:(k==2) with
   | true=>
    have h2:k=2:=by simpa using b2
    subst h2;rw[pl] at h;have:=O4 v ts (by simpa using h);simp only[AB,D0,AE,Ec];rw[C6];simpa using this
   | false=>
    have hc:Q0 (.mk k n i ts)=true:=by
     rw[pl,b5,b2] at h;simpa using h
    have e:=LZ (.mk k n i ts) (fun i=>ph (φ i)) hc;rw[CD,b5,b2] at e;rw[e];simp[La v _ _ (M1 hc)]
theorem O4 (v:Nat):∀ l:List Ty,Uw l=true->GD v false (Rw φ l)=eW (fun i=>φ i==v) l
 | [],_=>rfl
 | t::l,h=>by
  simp only[Uw,AG] at h;rw[Rw,Cl,GD,eW];rw[yl v t h.1,O4 v l h.2]
end
mutual
theorem iu (v:Nat):∀ b:Ty,bd b=true->C6 v true (tr φ b)=oI (fun i=>φ i==v) b
 | .mk k n i ts,h=>by
  rw[tr,CD,oI];cases b5:(k==5) with
  | true=>
   have h5:k=5:=by simpa using b5
   subst h5;simp[C6]
  | false=>
   cases b2:(k==2) with
   | true=>
    have h2:k=2:=by simpa using b2
    subst h2
    have hp:Uw ts=true:=by
     rw[bd] at h;simpa using h
    have:=O4 φ v ts hp;simp only[AB,D0,AE];rw[C6,oA];simpa using this
   | false=>
    cases b3:(k==3) with
    | true=>
     have h3:k=3:=by simpa using b3
     subst h3;rw[bd] at h;have:=Zr v ts (by simpa using h);simp only[AB,EN,AE,Ec];rw[C6];simpa using this
    | false=>
     have hc:Q0 (.mk k n i ts)=true:=by
      rw[bd,b5,b2,b3] at h;simpa using h
     simp only[AB,Fu,E2];exact La v _ _ (M1 hc)
theorem Zr (v:Nat):∀ l:List Ty,Mz l=true->GD v true (Rw φ l)=S1 (fun i=>φ i==v) l
 | [],_=>rfl
 | t::l,h=>by
  simp only[Mz,AG] at h;rw[Rw,Cl,GD,S1,iu v t h.1,Zr v l h.2]
end
mutual
theorem qH (v:Nat):∀ b:Ty,bd b=true->C6 v false (tr φ b)=(oI (fun i=>φ i==v) b||(Ap b).any fun i=>φ i==v)
 | .mk k n i ts,h=>by
  rw[tr,CD,oI,Ap];cases b5:(k==5) with
  | true=>
   have h5:k=5:=by simpa using b5
   subst h5
   have:(((φ i:Nat):Int)==(v:Int))=(φ i==v):=by
    rw[C0,Dv,Dv];omega
   simp[C6,this]
  | false=>
   cases b2:(k==2) with
   | true=>
    have h2:k=2:=by simpa using b2
    subst h2
    have hp:Uw ts=true:=by
     rw[bd] at h;simpa using h
    have:=O4 φ v ts hp;simp only[AB,D0,AE];rw[C6,oA];simpa using this
   | false=>
    cases b3:(k==3) with
    | true=>
     have h3:k=3:=by simpa using b3
     subst h3;rw[bd] at h;have:=iw v ts (by simpa using h);simp only[AB,EN,AE,Ec];rw[C6];simpa using this
    | false=>
     have hc:Q0 (.mk k n i ts)=true:=by
      rw[bd,b5,b2,b3] at h;simpa using h
     simp only[AB,Fu,E2];simp[La v _ _ (M1 hc)]
theorem iw (v:Nat):∀ l:List Ty,Mz l=true->GD v false (Rw φ l)=(S1 (fun i=>φ i==v) l||(CQ l).any fun i=>φ i==v)
 | [],_=>rfl
 | t::l,h=>by
  simp only[Mz,AG] at h;rw[Rw,Cl,GD,S1,CQ,qH v t h.1,iw v l h.2,List.any_append];cases oI (fun i=>φ i==v) t <;> cases (Ap t).any (fun i=>φ i==v) <;> simp
end
mutual
theorem eY (m:Int->Bool):∀ b:Ty,bd b=true->BF m (tr φ b)=(Ap b).countP fun i=>m (φ i)
 | .mk k n i ts,h=>by
  rw[tr,CD,Ap];cases b5:(k==5) with
  | true=>
   simp only[AE,BF];cases hm:m (φ i) <;> simp[hm]
  | false=>
   cases b3:(k==3) with
   | true=>
    have h3:k=3:=by simpa using b3
    subst h3;rw[bd] at h;have:=iz m ts (by simpa using h);simp only[AB,EN,AE];rw[BF];simpa using this
   | false=>
    have hk7:(k==7)=false:=by
     cases b7:(k==7) with
     | false=>rfl
     | true=>
      have h7:k=7:=by simpa using b7
      subst h7;rw[bd] at h;have:Q0 (.mk 7 n i ts)=true:=by simpa using h
      exact absurd rfl (S2 this).2
    cases b2:(k==2) <;> simp[BF,hk7,b3]
theorem iz (m:Int->Bool):∀ l:List Ty,Mz l=true->CP m (Rw φ l)=(CQ l).countP fun i=>m (φ i)
 | [],_=>rfl
 | t::l,h=>by
  simp only[Mz,AG] at h;rw[Rw,Cl,CP,CQ,eY m t h.1,iz m l h.2,OM]
end
mutual
theorem AAo (m:Int->Bool) (c:Ty):∀ (b:Ty) (k j:Nat),bd b=true->(∃ x,(Ap b)[k]?=some x/\m (φ x)=true)->((Ap b).take k).countP (fun i=>m (φ i))=j->tr φ (Qz c b k)=KU m (tr φ c) (tr φ b) j
 | .mk k n i ts,q,j,h,hx,hj=>by
  cases b5:(k==5) with
  | true=>
   obtain⟨x,hx,hm⟩:=hx;rw[Ap,b5] at hx hj;simp only[AE] at hx hj;cases q with
   | succ q=>simp at hx
   | zero=>
    have e:i=x:=by simpa using hx
    subst e;have e0:j=0:=by simpa using hj.symm
    subst e0;rw[Qz,b5];simp only[AE,BH];rw[show tr φ (.mk k n i ts)=ph (φ i) by rw[tr,CD,b5]; rfl,KU];simp[hm]
  | false=>
   cases b3:(k==3) with
   | true=>
    have h3:k=3:=by simpa using b3
    subst h3;rw[bd] at h;rw[Ap] at hx hj;have:=qI m c ts q j (by simpa using h) (by simpa using hx) (by simpa using hj);rw[Qz];simp only[AB,AE,BH,show((3:Int)==5)=false from rfl];rw[tr,CD];simp only[AB,AE,BH,show((3:Int)==5)=false from rfl,EN];rw[show tr φ (.mk 3 n i ts)=.mk 3 n i (Rw φ ts) by rw[tr,CD]; rfl,KU];simp only[AB,AE,BH,show((3:Int)==7)=false from rfl];rw[<-this]
   | false=>
    obtain⟨x,hx,_⟩:=hx;rw[Ap,b5,b3] at hx;simp at hx
theorem qI (m:Int->Bool) (c:Ty):∀ (l:List Ty) (k j:Nat),Mz l=true->(∃ x,(CQ l)[k]?=some x/\m (φ x)=true)->((CQ l).take k).countP (fun i=>m (φ i))=j->Rw φ (Lv c l k)=Jv m (tr φ c) (Rw φ l) j
 | [],q,j,_,hx,_=>by
  obtain⟨x,hx,_⟩:=hx;simp[CQ] at hx
 | t::l,q,j,h,hx,hj=>by
  simp only[Mz,AG] at h;obtain⟨x,hx,hm⟩:=hx;rw[CQ] at hx hj;have hc:=eY φ m t h.1;rw[show Rw φ (t::l)=tr φ t::Rw φ l from rfl]
  by_cases hq:q<(Ap t).length
  ·rw[BA hq] at hx
   rw[OS (by omega)] at hj
   have hlt:j<BF m (tr φ t):=by
    rw[hc,<-hj]
    have e:(Ap t).take q++x::(Ap t).drop (q+1)=Ap t:=by
     obtain⟨h1,h2⟩:=Ae.1 hx;rw[<-h2,<-W9 h1,OT]
    have:(Ap t).countP (fun i=>m (φ i))=((Ap t).take q++x::(Ap t).drop (q+1)).countP fun i=>m (φ i):=by rw[e]
    rw[this,OM,List.countP_cons];simp[hm]
   rw[Lv,Jv,Au hq,Au hlt];simp only[AE];rw[<-AAo m c t q j h.1 ⟨x,hx,hm⟩ hj];rfl
  ·rw[CV (by omega)] at hx
   rw[List.take_append,CL (by omega),OM,<-hc] at hj;have hlt:¬ j<BF m (tr φ t):=by omega
   rw[Lv,Jv,A9 hq,A9 hlt];simp only[AB];rw[<-qI m c l (q-(Ap t).length) (j-BF m (tr φ t)) h.2 ⟨x,hx,hm⟩ (by omega)];rfl
end
end
end Go.Proofs.YtpgfpakdnijngaaGreatDoor
