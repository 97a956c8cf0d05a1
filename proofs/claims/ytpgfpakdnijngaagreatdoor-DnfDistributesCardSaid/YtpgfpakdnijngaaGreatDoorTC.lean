/-
  Terms: Validate, both versions.
-/
import Derived.Test.YtpgfpakdnijngaaGreatDoorTA
import Derived.Test.YtpgfpakdnijngaaGreatDoorW1
import Derived.Test.YtpgfpakdnijngaaGreatDoorWpH
import Derived.Test.YtpgfpakdnijngaaGreatDoorTB
import Derived.Test.YtpgfpakdnijngaaGreatDoorW2
import Derived.Laws.Strings3
set_option linter.unusedSimpArgs false
set_option linter.unusedVariables false
namespace Go.Proofs.YtpgfpakdnijngaaGreatDoor
open Go.Tel
attribute [local simp] CX Cx MP MQ AX Df Ia wO setCells C2 FA DN Ca Bo alive Dx Hv KX nT Bi DF Bz Ib Fj Eo nU pY okB wX pZ wY pg wZ lu we wh wj wk wm wo wq wu wz w6 w7 okF w8 w9 xA xB xD Zh xE Ur Us Ut Uu xH xJ xK xN xO xQ xS xT xU xV Ic xW pn xX xY xZ xd pq xe xg xh xj xk Cn g0 g1 xI xL xM xF xG xC lf Y4 Y5
section
variable {R:Nat->Option (List PV)}
theorem TA {t:Ty} (h:size t<2 ^ 38) (ho:eT t) {x:AV} (hx:Bp t x):AW (env R) 42 [x] fun r=>r=AD (verdict t):=by
 have e1:=P6 (R:=R) t (by omega) x hx;have e2:=Ss (R:=R) t (by omega) x hx;have e3:=Lr (R:=R) t h ho x hx;have hv:verdict t=bif decide (200<size t)||decide (12<depth t) then 4 else bif valid t then 0 else 2:=rfl
 generalize hz:size t=z at *;generalize hd:depth t=d at *;generalize hw:valid t=w at *;obtain⟨k,n,i,ts⟩:=t;obtain⟨a,rfl,ha⟩:=hx;refine e42 (u0:=.agg [AD k,SS n,AD i,a]) (by simp[ha.close]) (AAt ?_);simp[ha.ok];refine AI e1 ?_;rintro v rfl
 have fin:∀ b:Bool,b=(decide (200<z)||decide (12<d))->AX (BB b) (QP (fun r=>r=AD (verdict (.mk k n i ts))) (AD 4) ⟨[[AD k,SS n,AD i,a]],[]⟩)
   (FA (env R) ⟨[[AD k,SS n,AD i,a]],[]⟩ (some 4) (.ptr 0 0) fun a13=>Fe (env R) (Ca (env R) 42 0 0 0) (.func (.func 86) [] []) [a13] ⟨[[AD k,SS n,AD i,a]],[]⟩ fun a14 yx=>Fj a14 fun a15=>AX a15 (QP (fun r=>r=AD (verdict (.mk k n i ts))) (AD 2) yx) (qZ R 0 0 0 yx (QP fun r=>r=AD (verdict (.mk k n i ts))))):=by
  rintro b rfl;cases hb:(decide (200<z)||decide (12<d)) with
  | true=>simp[QP,QI,hv,hb]
  | false=>
   simp;refine AI e3 ?_;rintro v rfl;cases w with
   | false=>simp[QP,QI,hv,hb]
   | true=>
    simp;refine AIU ?_;simp[QP,QI,hv,hb]
 by_cases c1:200<z
 ·have c1':(200<(z:Int)):=by omega
  have c1n:¬ ((z:Int)<=200):=by omega
  have:=fin true (by simp[c1]);simpa[c1',c1n] using this
 ·have c1':¬ (200<(z:Int)):=by omega
  have c1n:((z:Int)<=200):=by omega
  simp[c1',c1n];refine AI e2 ?_;rintro v rfl
  by_cases c2:12<d
  ·have c2':(12<(d:Int)):=by omega
   have c2n:¬ ((d:Int)<=12):=by omega
   have:=fin true (by simp[c2]);simpa[c1',c1n,c2',c2n] using this
  ·have c2':¬ (12<(d:Int)):=by omega
   have c2n:((d:Int)<=12):=by omega
   have:=fin false (by simp[c1,c2]);simpa[c1',c1n,c2',c2n] using this
theorem Uy {t:Ty} (h:size t<2 ^ 60) (ho:eT t) {x:AV} (hx:Bp t x):AW (env R) 42 [x] fun r=>r=AD (verdict t):=by
 by_cases hs:size t<2 ^ 38
 ·exact TA hs ho hx
 have e1:=P6 (R:=R) t (by omega) x hx
 have hv:verdict t=4:=by
  unfold verdict;rw[Au (show 200<size t by omega)];rfl
 rw[hv];generalize hz:size t=z at *;obtain⟨k,n,i,ts⟩:=t;obtain⟨a,rfl,ha⟩:=hx;refine e42 (u0:=.agg [AD k,SS n,AD i,a]) (by simp[ha.close]) (AAt ?_);simp[ha.ok];refine AI e1 ?_;rintro v rfl;have c1':(200<(z:Int)):=by omega
 have c1n:¬ ((z:Int)<=200):=by omega
 simp[QP,QI,c1',c1n]
end
section
variable {R:Nat->Option (List PV)}
theorem Ld (b:Bool):AW (env R) 113 [BB b] fun r=>∃ c:Int,r=AD c/\c≠0:=by
 refine AOd (u0:=BB b) (by simp) (AEc ?_);refine⟨fun _=>⟨_,Ic,-1,rfl,by omega⟩,fun _=>AEd ⟨_,Ic,1,rfl,by omega⟩⟩
theorem qa {k i k' i':Int} {n n':List UInt8} {ts ts':List Ty} {a a':AV} (ha:BP a (AQ ts)) (Hs:BP a' (AQ ts')) (hl:Ac ts<2 ^ 60) (hlen:ts.length=ts'.length)
  (ih:∀ t∈ts,∀ (t':Ty) (x x':AV),Bp t x->Bp t' x'->AW (env R) 79 [x,x'] fun r=>∃ c:Int,r=AD c/\(c=0<->t=t')) {Post:AV->Prop} :
  ∀ (j q:Nat),q+j=ts.length->(∀ c:Int,(c=0<->ts.drop q=ts'.drop q)->Post (AD c))->jL R 0 0 0 (.ptr 0 0) (.ptr 1 0) (AD q) ⟨[[AD k,SS n,AD i,a],[AD k',SS n',AD i',a']],[]⟩ (QP Post):=by
 have l5:=Cq ts;intro j
 induction j with
 | zero=>
  intro q hi hP;refine AAu ?_;have h1:¬ ((q:Int)<ts.length):=by omega
  simp[ha.Bk,Ad,h1];refine AIV ?_;have h2:ts.drop q=[]:=Cf (by omega);have h3:ts'.drop q=[]:=Cf (by omega);exact⟨_,Ic,hP 0 (by simp[h2,h3])⟩
 | succ j Gs=>
  intro q hi hP;refine AAu ?_;have h1:((q:Int)<ts.length):=by omega
  obtain⟨t,ht⟩:∃ t,ts[q]?=some t:=⟨_,Ak (by omega)⟩;obtain⟨t',ht'⟩:∃ t,ts'[q]?=some t:=⟨_,Ak (by omega)⟩;rw[drop_cons ht,drop_cons ht'] at hP;have e3:=ih t (BK ht) t' _ _ (Bp.Ci t) (Bp.Ci t');simp[ha.Bk,Ad,h1];refine AIW ?_;simp;refine CS ha (row:=Ah t) (by omega) (by simpa using CA ht) (Am t) (by omega) ?_;simp[Am];refine CS Hs (row:=Ah t') (by omega) (by simpa using CA ht') (Am t') (by omega) ?_;have tk:∀ t:Ty,List.take 4 ((Ah t).map AV.pv)=(Ah t).map .pv:=fun t=>CL (by simp[Am])
  simp[Am,<-List.map_take,tk];refine AI e3 ?_;rintro v ⟨c,rfl,hc⟩
  by_cases h0:c=0
  ·have e:t=t':=hc.1 h0
   subst h0;simp;refine AIX ?_;simp only[Dx,xI];refine⟨⟨Al,Al⟩,DX (by omega) (by omega) ?_⟩;have:=Gs (q+1) (by omega) (fun c h=>hP c (by rw[h]; simp[e]));simpa using this
  ·have e:t≠t':=fun e=>h0 (hc.2 e)
   have:=hP c (by simp[e,h0]);simp[QP,QI,h0];exact this
mutual
theorem Z7:∀ (t:Ty),size t<2 ^ 38->∀ (t':Ty) (x x':AV),Bp t x->Bp t' x'->AW (env R) 79 [x,x'] fun r=>∃ c:Int,r=AD c/\(c=0<->t=t')
 | .mk k n i ts,h,.mk k' n' i' ts',x,x',hx,hx'=>by
  obtain⟨a,rfl,ha⟩:=hx;obtain⟨a',rfl,Hs⟩:=hx';simp only[size] at h;have ih:=Vm ts (by omega)
  suffices H:∀ Post:AV->Prop,(∀ c:Int,(c=0<->Ty.mk k n i ts=Ty.mk k' n' i' ts')->Post (AD c))->qb R 0 0 0 (.agg [AD k,SS n,AD i,a]) (.agg [AD k',SS n',AD i',a']) ⟨[],[]⟩ (QP Post) from
   e79 (u0:=.agg [AD k,SS n,AD i,a]) (u1:=.agg [AD k',SS n',AD i',a']) (by simp[ha.close,Hs.close]) (H _ fun c hc=>⟨c,rfl,hc⟩)
  intro Post hP;refine AIY ?_;simp only[Ty.mk.injEq] at hP
  by_cases h1:k=k'
  ·subst h1
   by_cases h2:n=n'
   ·subst h2
    by_cases h3:i=i'
    ·subst h3
     by_cases h4:ts.length=ts'.length
     ·have xl:((ts.length:Int)=ts'.length):=by omega
      simp[ha.ok,Hs.ok,ha.Bk,Hs.Bk,Ad,xl,bne];refine AIZ ?_
      have:=qa (k:=k) (i:=i) (k':=k) (i':=i) (n:=n) (n':=n) ha Hs (by omega) h4 ih ts.length 0 (by omega) (Post:=Post) (by
       intro c hc;exact hP c (by simpa using hc))
      simpa using this
     ·have xl:¬ ((ts.length:Int)=ts'.length):=by omega
      simp[ha.ok,Hs.ok,ha.Bk,Hs.Bk,Ad,xl,bne];refine AI (Ld _) ?_;rintro v ⟨c,rfl,hc⟩;exact⟨_,Ic,hP c (by simp only[hc,false_iff]; rintro⟨_,_,_,e⟩; rw[e] at h4; exact h4 rfl)⟩
    ·have h3':(i==i')=false:=by simpa using h3
     simp[ha.ok,Hs.ok,h3,bne];refine AI (Ld _) ?_;rintro v ⟨c,rfl,hc⟩;exact⟨_,Ic,hP c (by simp[hc,h3])⟩
   ·simp[ha.ok,Hs.ok,h2,bne]
    refine AI (Ld _) ?_;rintro v ⟨c,rfl,hc⟩;exact⟨_,Ic,hP c (by simp[hc,h2])⟩
  ·simp[ha.ok,Hs.ok,h1,bne]
   refine AI (Ld _) ?_;rintro v ⟨c,rfl,hc⟩;exact⟨_,Ic,hP c (by simp[hc,h1])⟩
theorem Vm:∀ (l:List Ty),Ac l<2 ^ 38->∀ t∈l,∀ (t':Ty) (x x':AV),Bp t x->Bp t' x'->AW (env R) 79 [x,x'] fun r=>∃ c:Int,r=AD c/\(c=0<->t=t')
 | [],_,_,h=>by cases h
 | e::l,ho,a,h=>by
  simp only[Ac] at ho;rcases Av.1 h with h' | h'
  ·rw[h']
   exact Z7 e (by omega)
  ·exact Vm l (by omega) a h'
end
theorem O9 {t t':Ty} {x x':AV} (h:size t<2 ^ 38) (hx:Bp t x) (hx':Bp t' x'):AW (env R) 35 [x,x'] fun r=>∃ b:Bool,r=BB b/\(b=true<->t=t'):=by
 have e:=Z7 (R:=R) t h t' x x' hx hx';obtain⟨k,n,i,ts⟩:=t;obtain⟨k',n',i',ts'⟩:=t';obtain⟨a,rfl,ha⟩:=hx;obtain⟨a',rfl,Hs⟩:=hx';refine e35 (u0:=.agg [AD k,SS n,AD i,a]) (u1:=.agg [AD k',SS n',AD i',a']) (by simp[ha.close,Hs.close]) (AIa ?_);simp[ha.ok,Hs.ok];refine AI e ?_;rintro v ⟨c,rfl,hc⟩;refine⟨⟨rfl,rfl⟩,_,Ic,?_⟩
 by_cases h0:c=0
 ·subst h0
  have e:=hc.1 rfl;simp only[Ty.mk.injEq] at e;exact .inr ⟨rfl,e⟩
 ·have b:(c==0)=false:=by simpa using h0
  refine .inl ⟨by rw[b],fun e1 e2 e3 e4=>h0 (hc.2 ?_)⟩;rw[e1,e2,e3,e4]
end
theorem A8 {b:Bool} {s:AK} {W:(AV->AK->Prop)->Prop} {K:AV->AK->Prop} (h:W K):KX (BB b) b s W K:=⟨fun _=>h,fun h=>absurd rfl h⟩
theorem Jd {b c:Bool} {s:AK} {W:(AV->AK->Prop)->Prop} {K:AV->AK->Prop} (hn:b≠c) (h:K (.tuple []) s):KX (BB b) c s W K:=⟨fun h=>absurd h hn,fun _=>h⟩
theorem Bv {s:AK} {W:(AV->AK->Prop)->Prop} {K:AV->AK->Prop} (h:K (.tuple []) s):KX (BB true) false s W K:=Jd (by decide) h
theorem Cy {s:AK} {W:(AV->AK->Prop)->Prop} {K:AV->AK->Prop} (h:K (.tuple []) s):KX (BB false) true s W K:=Jd (by decide) h
theorem BZ {A B:Prop} (h:A):AX (BB true) A B:=⟨fun _=>h,fun h=>by cases h⟩
theorem BQ {A B:Prop} (h:B):AX (BB false) A B:=⟨fun h=>(by cases h),fun _=>h⟩
theorem pk {c:Bool} {a b:AV} {K:AV->Prop} (h:K (bif c then a else b)):Bi (BB c) a b K:=h
theorem CC {k:IntKind} {a b:Int} {K:AV->Prop} (h:K (BB (a==b))):Dx k .eql (.pv (.sc (.int k a))) (.pv (.sc (.int k b))) K:=⟨⟨rfl,rfl⟩,h⟩
theorem Fk {k:IntKind} {a b:Int} {K:AV->Prop} (h:K (BB (a != b))):Dx k .neq (.pv (.sc (.int k a))) (.pv (.sc (.int k b))) K:=⟨⟨rfl,rfl⟩,h⟩
theorem BE {a b:Int} {K:AV->Prop} (h:K (BB (a<b))):Dx .i64 .lss (AD a) (AD b) K:=⟨⟨rfl,rfl⟩,h⟩
theorem YA {a b:Int} {K:AV->Prop} (h:K (BB (a<=b))):Dx .i64 .leq (AD a) (AD b) K:=⟨⟨rfl,rfl⟩,h⟩
theorem Je {a b:Int} {K:AV->Prop} (h:K (BB (a>b))):Dx .i64 .gtr (AD a) (AD b) K:=⟨⟨rfl,rfl⟩,h⟩
theorem QF {a b:Int} {K:AV->Prop} (h:K (BB (a>=b))):Dx .i64 .geq (AD a) (AD b) K:=⟨⟨rfl,rfl⟩,h⟩
theorem Cr {a b:Int} {K:AV->Prop} (h1:-(2 ^ 63)<=a+b) (h2:a+b<2 ^ 63) (h:K (AD (a+b))):Dx .i64 .add (AD a) (AD b) K:=⟨⟨rfl,rfl⟩,DX h1 h2 h⟩
theorem Le {a b:Int} {K:AV->Prop} (h1:-(2 ^ 63)<=a-b) (h2:a-b<2 ^ 63) (h:K (AD (a-b))):Dx .i64 .sub (AD a) (AD b) K:=⟨⟨rfl,rfl⟩,DX h1 h2 h⟩
theorem Q7 {z ps cs:_} {K:AV->Prop} (hf:Ia z ps=some cs) (h:K (.agg cs)):Df z ps K:=by
 simp only[Df,hf,wO];exact h
theorem nt {b:Bool} {K:AV->Prop} (h:K (BB !b)):Fj (BB b) K:=h
theorem Bq {l:List AV} {i:Nat} {v:AV} {K:AV->Prop} (hi:l[i]?=some v) (h:K v):DF (.tuple l) i K:=by
 simp only[DF,wO,hi];exact h
theorem DY {s:AK} {v:AV} {cs:List AV} {K:AV->AK->Prop} (hc:cellsOf v=cs) (ho:cs.all Ar=true) (h:K (.ptr s.bs.length 0) ⟨s.bs++[cs],s.ts⟩):Cx s v K:=by
 unfold Cx;rw[hc];exact⟨ho,h⟩
theorem Cj {s:AK} {cs:List AV} {K:AV->AK->Prop} (h:K (.ptr s.bs.length 0) ⟨s.bs++[cs],s.ts⟩):CX s cs K:=h
theorem A7 {s:AK} {id:Nat} {c:AV} {cs:List AV} (h:s.bs[id]?=some (c::cs)):alive s id=true:=by
 simp[alive,h]
theorem GG {s:AK} {id off:Nat} {K:AV->Prop} (ha:alive s id=true) (h:K (.ptr id off)):Eo s (.ptr id off) K:=⟨ha,h⟩
theorem Aq {s:AK} {id off d:Nat} {K:AV->Prop} (ha:alive s id=true) (h:K (.ptr id (off+d))):Bo s (.ptr id off) d K:=⟨ha,h⟩
theorem Ax {E:Env} {s:AK} {id off:Nat} {cs:List AV} {v:AV} {K:AV->Prop} (hb:s.bs[id]?=some cs) (hv:cs[off]?=some v) (h:K v):FA E s none (.ptr id off) K:=by
 simp only[FA,hb,wO,DN,hv,xL,xM,xF,xG];exact h
theorem Az {E:Env} {s:AK} {id k:Nat} {cs:List AV} {K:AV->Prop} (hb:s.bs[id]?=some cs) (hk:cs.length=k) (h:K (.agg cs)):FA E s (some k) (.ptr id 0) K:=by
 simp only[FA,hb,wO,DN,Fv,xL,xM,xF,xG];refine⟨by omega,?_⟩;rw[CL (by omega)];exact h
theorem BS {s:AK} {a:AV} {n:Nat} {K:AV->Prop} (hl:Bk s a=some n) (h:K (AD n)):Bz s a K:=by
 simp only[Bz,hl,wO];exact h
theorem AEe {a b:List UInt8} {K:AV->Prop} (hl:a.length+b.length<2 ^ 63) (h:K (SS (a++b))):Hv .add (SS a) (SS b) K:=by
 simp only[Hv];exact⟨by simpa using hl,by simpa using h⟩
theorem sln {w:List UInt8} {K:AV->Prop} (h:K (AD w.length)):Ib (SS w) K:=by simpa[Ib] using h
theorem six {w:List UInt8} {i:Int} {c:UInt8} {K:AV->Prop} (h0:0<=i) (hc:w[i.toNat]?=some c) (h:K (.pv (.sc (.int .u8 c.toNat)))):Sx (SS w) (AD i) K:=⟨h0,c,hc,h⟩
theorem Ck {L:A0} {s:AK} {id k:Nat} {cs old:List AV} {K:AK->Prop} (hb:s.bs[id]?=some old) (hk:cs.length=k) (ho:old.length=k) (h0:0<k) (hro:L.ro<=id) (hok:cs.all Ar=true) (hn:L.n0<=id\/HL cs=true) (h:K ⟨s.bs.set id cs,s.ts⟩):C2 L s k (.ptr id 0) (.agg cs) K:=by
 have hce:cellsOf (.agg cs)=cs:=rfl
 have AEf:∀ (a b:List AV),a.length=b.length->setCells a 0 b=b:=by
  intro a b hab
  have gen:∀ (b pre old:List AV),old.length=b.length->setCells (pre++old) pre.length b=pre++b:=by
   intro b
   induction b with
   | nil=>intro pre old h; cases old with
    | nil=>rfl
    | cons _ _=>simp at h
   | cons x b ih=>
    intro pre old h;cases old with
    | nil=>simp at h
    | cons y old=>
     have:=ih (pre++[x]) old (by simpa using h);simp only[Ab,A3,BV,DI,EZ,Di] at this;rw[setCells];simpa using this
  simpa using gen b [] a hab
 simp only[C2,hb,wO,hce];refine⟨⟨hk,by omega,hro,hok,hn,by omega⟩,?_⟩;rw[AEf old cs (by omega)];exact h
theorem l9 {P:Program} {t:TypeId} (ht:P.underlying t=some .string) (c:UInt8) (w:List UInt8):quick P (Instr.sliceAt t (.string ⟨(c::w).toArray⟩) (some (.int .i64 1)) none none)=some (.string ⟨w.toArray⟩):=by
 unfold Instr.sliceAt;refine Cb (JO ht) ?_;simp only;unfold Instr.slice;refine Cb (JO ht) ?_
 have hs:(1:Int)<=((⟨(c::w).toArray⟩:ByteArray).size:Int):=by
  simp[ByteArray.size];omega
 simp only[Instr.sliceBounds,Instr.sliceBound,asIntOf,hs,OP,Cc,Dk,pure_bind,IK,Dr]
 have e:(⟨(c::w).toArray⟩:ByteArray).extract 1 (⟨(c::w).toArray⟩:ByteArray).size=⟨w.toArray⟩:=by
  rw[ByteArray.ext_iff];simp[ByteArray.size]
 show quick P (pure (Value.string ((⟨(c::w).toArray⟩:ByteArray).extract 1 (⟨(c::w).toArray⟩:ByteArray).size)))=_
 rw[e];rfl
theorem mA {E:Env} {L:A0} {s:AK} {lk:Lk} {o:Oper} {K:AV->AK->Prop} {t:TypeId} {x:Operand} {c:UInt8} {w:List UInt8} (ho:o.op=.slice t x (some (.const (.int .i64 1))) none none) (ht:E.P.underlying t=some .string) (hx:Im lk x=some (SS (c::w)))
  (h:K (SS w) s):Vn E L s lk o K:=by
 refine⟨SS w,s,fun ρ hA=>?_,h⟩;have ex:=BU hA hx
 have h1:E4 ρ o.op.operands.toList=true:=by
  have e:o.op.operands.toList=[x,.const (.int .i64 1)]:=by rw[ho]; rfl
  rw[e];have e1:AP ρ (.const (.int .i64 1))=.pv (.sc (.int .i64 1)):=rfl;simp[E4,ex,e1,Gg]
 have h2:Ct E ρ o=some (SS w):=by
  have:quick E.P (execOp (fun z=>(Gg (AP ρ z)).getD undef) o)=some (.value (.string ⟨w.toArray⟩)):=by
   unfold execOp;rw[ho];have e1:AP ρ (.const (.int .i64 1))=.pv (.sc (.int .i64 1)):=rfl;simp only[ex,e1,Gg,I2,Jw,Option.map_none];exact Cb (l9 ht c w) rfl
  simp only[Ct,h1,Dr,this];rfl
 have h3:Nj E.P s t (AP ρ x) (some (AP ρ (.const (.int .i64 1)))) none none=none:=by
  unfold Nj;rw[ht]
 unfold CE;rw[ho];simp only[Jw,Option.map_none,h3,h2]
theorem mB {E:Env} {L:A0} {s:AK} {lk:Lk} {o:Oper} {K:AV->AK->Prop} {t c:TypeId} {x:Operand} (ho:o.op=.binOp .eql t x (.const .nilIface) c) (hx:Im lk x=some (.pv (.sc .nilIface)))
  (hq:quick E.P (do eqGuard .eql t x (.const .nilIface) .nilIface .nilIface; binOp .eql t .nilIface .nilIface)=some (.bool true)) (h:K (BB true) s):Vn E L s lk o K:=by
 refine⟨BB true,s,fun ρ hA=>?_,h⟩;have ex:=BU hA hx;have e1:AP ρ (.const .nilIface)=.pv (.sc .nilIface):=rfl
 have h1:E4 ρ o.op.operands.toList=true:=by
  have e:o.op.operands.toList=[x,.const .nilIface]:=by rw[ho]; rfl
  rw[e];simp[E4,ex,e1,Gg]
 have h2:Ct E ρ o=some (BB true):=by
  have:quick E.P (execOp (fun z=>(Gg (AP ρ z)).getD undef) o)=some (.value (.bool true)):=by
   unfold execOp;rw[ho];simp only[ex,e1,Gg,I2];exact Cb hq rfl
  simp only[Ct,h1,Dr,this];rfl
 have h3:Hh E.P s ρ .eql t x (.const .nilIface)=none:=by
  unfold Hh;simp[ex,e1,D6,sameKind,rowsOf]
 have h4:I6 .eql (AP ρ x) (AP ρ (.const .nilIface))=none:=by
  rw[ex,e1];rfl
 unfold CE;rw[ho];simp only[h4,h3,h2]
theorem Vo:∀ (f n:Nat) (acc:List UInt8),acc.length<(KI (f+1) n acc).length/\(KI (f+1) n acc).length<=acc.length+f+1
 | 0,n,acc=>by
  rw[KI];cases Nat.blt n 10 <;> simp[KI]
 | f+1,n,acc=>by
  rw[KI];cases Nat.blt n 10 with
  | true=>simp
  | false=>
   have:=Vo f (n / 10) (UInt8.ofNat (48+n % 10)::acc);simp only[A3,AB] at this ⊢;omega
theorem TB (n:Nat):0<(GH n).length/\(GH n).length<=20:=by
 have:=Vo 19 n [];simpa[GH] using this
mutual
def ren:Ty->Ty
 | .mk k n i ts=>bif k==7 then .mk 2 (36::GH i.toNat) 0 [] else .mk k n i (Bx ts)
def Bx:List Ty->List Ty
 | []=>[]
 | t::l=>ren t::Bx l
end
theorem Bf:∀ l:List Ty,Bx l=l.map ren
 | []=>rfl
 | t::l=>by rw[Bx,Bf l]; rfl
mutual
def H6 (N:Nat):Ty->Bool
 | .mk k n i ts=>bif k==7 then ts.isEmpty&&(decide (0<=i)&&decide (i<N)) else !(n.head?==some 36)&&(decide (n.length<2 ^ 40)&&I0 N ts)
def I0 (N:Nat):List Ty->Bool
 | []=>true
 | t::l=>H6 N t&&I0 N l
end
structure TC (R:RT):Prop where
 ito:∀ n:Nat,n<2 ^ 40->AW (env R) 123 [AD n] fun v=>v=SS (GH n)
 ato:∀ n:Nat,n<2 ^ 40->AW (env R) 124 [SS (GH n)] fun v=>v=.tuple [AD n,.pv (.sc .nilIface)]
section
variable {R:RT}
theorem yy {c:UInt8} {w:List UInt8} (h:((c::w).head?==some 36)=false):(((c.toNat:Int)) != 36)=true:=by
 simp only[List.head?_cons] at h
 have:c≠36:=by
  rintro rfl;simp at h
 simp only[bne_iff_ne,ne_eq];intro h1;apply this;have h2:c.toNat=36:=by omega
 exact W7.1 h2
theorem KV (hn:TC R) {N:Nat} (hN:N<=2 ^ 40) {k i:Int} {n:List UInt8} {ts:List Ty} (ht:H6 N (.mk k n i ts)=true) {x:AV} (hx:Bp (ren (.mk k n i ts)) x) :
  AW (env R) 92 [x] fun r=>r=bif k==7 then .tuple [AD i,BB true] else .tuple [AD 0,BB false]:=by
 rw[ren] at hx;rw[H6] at ht
 have go:∀ (k' i':Int) (n':List UInt8) (a:AV) (rows:List (List PV)),BP a rows->(∀ Post:AV->Prop,Post (bif k==7 then .tuple [AD i,BB true] else .tuple [AD 0,BB false])->qc R 0 0 0 (.agg [AD k',SS n',AD i',a]) ⟨[],[]⟩ (QP Post)) ->
   AW (env R) 92 [.agg [AD k',SS n',AD i',a]] fun r=>r=bif k==7 then .tuple [AD i,BB true] else .tuple [AD 0,BB false]:=by
  intro k' i' n' a rows ha h;exact e92 (u0:=.agg [AD k',SS n',AD i',a]) (by simp[ha.close]) (h _ rfl)
 cases b7:(k==7) with
 | true=>
  rw[b7] at hx ht;simp only[AE,AG,BT] at hx ht;obtain⟨a,rfl,ha⟩:=hx;have hd:=TB i.toNat;have go':=go 2 0 (36::GH i.toNat) a _ ha;rw[b7] at go';refine go' fun Post hP=>AAv (DY rfl (by simp[ha.ok]) (Aq rfl (Ax rfl rfl (Fk ?_))))
  refine A8 (Aq rfl (A8 (Ax rfl rfl (A8 (sln (A8 (BE (pk ?_))))))));have h2:¬ (((36::GH i.toNat).length:Nat):Int)<2:=by simp; omega
  rw[A9 h2];refine A8 (Aq rfl (A8 (Ax rfl rfl (A8 (six (c:=36) (by omega) rfl (A8 (Fk (pk (BQ ?_)))))))));refine AIb (Aq rfl (Ax rfl rfl ?_));refine mA (t:=9) (x:=.tmp 23) (by kernel_rfl) (by kernel_rfl) rfl ?_;refine AI (hn.ato i.toNat (by omega)) ?_;rintro v rfl;refine Bq rfl (Bq rfl (mB (t:=136) (c:=136) (x:=.tmp 29) (by kernel_rfl) rfl (by kernel_rfl) ?_));have e:((i.toNat:Nat):Int)=i:=by omega
  rw[e];exact⟨_,by simp[close,AN],hP⟩
 | false=>
  rw[b7] at hx ht;simp only[AB,AG,BT] at hx ht;obtain⟨a,rfl,ha⟩:=hx;have go':=go k i n a _ ha;rw[b7] at go';refine go' fun Post hP=>AAv (DY rfl (by simp[ha.ok]) (Aq rfl (Ax rfl rfl (Fk ?_))))
  have fin:∀ (s:AK),QP Post (.tuple [AD 0,BB false]) s:=fun s=>⟨_,by simp[close,AN],hP⟩
  by_cases h2:k=2
  ·subst h2
   refine A8 (Aq rfl (A8 (Ax rfl rfl (A8 (sln (A8 (BE (pk ?_))))))))
   by_cases hl:(n.length:Int)<2
   ·rw[Au hl]
    exact Bv (Bv (Bv (Bv (pk (BZ (fin _))))))
   ·rw[A9 hl]
    obtain⟨c,w,rfl⟩:=Mq (l:=n) (by rintro rfl; simp at hl);have hne:=yy (c:=c) (w:=w) (by simpa using ht.1);refine A8 (Aq rfl (A8 (Ax rfl rfl (A8 (six (c:=c) (by omega) rfl (A8 (Fk (pk ?_))))))));rw[hne];exact BZ (fin _)
  ·have hb:(k != 2)=true:=by simpa using h2
   rw[hb];exact Bv (Bv (Bv (Bv (pk (Bv (Bv (Bv (Bv (pk (BZ (fin _)))))))))))
abbrev phA (v:Nat):AV:=.agg [AD 2,SS (36::GH v),AD 0,.AA []]
theorem QG (hn:TC R) (v:Nat) (hv:v<2 ^ 40):AW (env R) 90 [AD v] fun r=>r=phA v:=by
 have hd:=TB v;refine e90 (u0:=AD v) (by simp) (AIc ?_);refine AI (hn.ito v hv) ?_;rintro _ rfl;refine AEe (by simp; omega) (Q7 rfl ?_);refine Ck (old:=[AD 0,SS [],AD 0,.AA []]) rfl rfl rfl (by decide) (AM _) rfl (.inl (AM _)) ?_;refine Az rfl rfl ?_;exact⟨phA v,by simp[close,AN,setCells,cellsOf],rfl⟩
theorem B9.app {s:AK} (h:B9 s) {b:List AV} (hb:AU (s.bs.length+1) b=true):B9 ⟨s.bs++[b],s.ts⟩:=by
 intro c hc;simp only[Ab,A3,BV];rcases BL.1 hc with hc|hc
 ·exact CZ (by omega) c (h c hc)
 ·rw[Bj.1 hc]
  exact hb
theorem JH {rr:Bool} {s:AK} (hs:B9 s) {m:List (List AV)} {p:PV} {Post:AV->AK->Prop} (h:Post (.pv p) s):QM rr s.bs.length Post (.pv p) ⟨s.bs++m,s.ts⟩:=by
 have e:(s.bs++m).take s.bs.length=s.bs:=by simp
 refine AAw ?_ ?_
 ·simp only[e]
  rw[Bs];exact hs
 ·simpa only[e] using h
theorem yz {α:Type} {row:α->List PV} (hrow:∀ a,(row a).length=4) {f:FuncId} {cs:List AV} {g:α->Bool} {ts:List α} {y:AV} (hy:BP y (ts.map row)) (hl:ts.length<2 ^ 60) {s:AK} (hf:∀ t∈ts,∀ L,BC (env R) L f (.agg ((row t).map .pv)::cs) s (BB (g t)) s) {n0 ro rt:Nat} {QR:QT} :
  ∀ (j q:Nat),q+j=ts.length->(∀ i:Int,decide (0<=i)=(ts.drop q).any g->QR (AD i) s)->P7 R n0 ro rt y (.func (.func f) [] cs) (AD ts.length) (AD q) s QR:=by
 intro j
 induction j with
 | zero=>
  intro q hi hP;refine P8 (BE ?_);have h1:¬ ((q:Int)<ts.length):=by omega
  rw[A9 h1];refine BQ (eH ?_);have h2:ts.drop q=[]:=Cf (by omega);rw[h2] at hP;exact hP (-1) (by simp)
 | succ j Gs=>
  intro q hi hP;refine P8 (BE ?_);have h1:((q:Int)<ts.length):=by omega
  rw[Au h1];refine BZ (eI ?_);obtain⟨t,ht⟩:∃ t,ts[q]?=some t:=⟨_,Ak (by omega)⟩;have hd:=drop_cons ht;rw[hd] at hP;refine CS hy (row:=row t) (by omega) (by simp[ht]) (hrow t) (by omega) ?_;have hc:=hf t (BK ht)
  have e4:∀ K:AV->Prop,K (.agg ((row t).map .pv))->FA (env R) s (some 4) (.DK (row t) 0) K:=by
   intro K hK;simp only[FA,DN,Fv,xL,xM,xF,xG];refine⟨by rw[AZ,hrow]; omega,?_⟩;rw[CL (by rw[AZ,hrow]; omega)];exact hK
  refine e4 _ ?_;refine⟨BB (g t),s,hc _,?_⟩;cases hg:g t with
  | true=>exact BZ (hP q (by simp[hg]))
  | false=>
   refine BQ (eJ (Cr (by omega) (by omega) ?_));simp only[J0,hg,HH] at hP;have:=Gs (q+1) (by omega) hP;simpa using this
theorem YB {α:Type} {row:α->List PV} (hrow:∀ a,(row a).length=4) {f:FuncId} {cs:List AV} {g:α->Bool} {ts:List α} {y:AV} (hy:BP y (ts.map row)) (hl:ts.length<2 ^ 60) {s:AK} (hs:B9 s) (hcs:BN cs=false) (hf:∀ t∈ts,∀ L,BC (env R) L f (.agg ((row t).map .pv)::cs) s (BB (g t)) s) (L:A0) :
  BC (env R) L 94 [y,.func (.func f) [] cs] s (BB (ts.any g)) s:=by
 have hi:∀ L,∃ i:Int,decide (0<=i)=ts.any g/\BC (env R) L 125 [y,.func (.func f) [] cs] s (AD i) s:=by
  intro L
  obtain⟨v,s',⟨i,rfl,rfl,h⟩,hc⟩:=AId (R:=R) (L:=L) (s:=s) (t0:=y) (t1:=.func (.func f) [] cs) (Post:=fun v s'=>∃ i:Int,v=AD i/\s'=s/\decide (0<=i)=ts.any g) (by simp[BN,Dl,hcs]) (eK (BS (n:=ts.length) (by rw[hy.Bk,AZ]) (yz hrow hy hl hf ts.length 0 (by omega) fun i h=>by
   have:=JH (rr:=L.rr 125) hs (m:=[]) (p:=.sc (.int .i64 i)) (Post:=fun v s'=>∃ i:Int,v=AD i/\s'=s/\decide (0<=i)=ts.any g) ⟨i,rfl,rfl,by simpa using h⟩;simpa using this)))
  exact⟨i,h,hc⟩
 obtain⟨v,s',⟨rfl,rfl⟩,hc⟩:=m94 (R:=R) (L:=L) (s:=s) (t0:=y) (t1:=.func (.func f) [] cs) (Post:=fun v s'=>v=BB (ts.any g)/\s'=s) (by simp[BN,Dl,hcs]) (qB (by
  obtain⟨i,h,hc⟩:=hi (Ca (env R) 94 0 L.ro L.rt);refine⟨AD i,s,hc,QF ?_⟩;have:=JH (rr:=L.rr 94) hs (m:=[]) (p:=.sc (.bool (ts.any g))) (Post:=fun v s'=>v=BB (ts.any g)/\s'=s) ⟨rfl,rfl⟩;have e:decide (i>=0)=ts.any g:=h;rw[e];simpa using this))
 exact hc
theorem DZ (t:Ty):((Ah t).map AV.pv).all Ar=true:=by cases t; simp[Ah,nU,pZ,pg]
mutual
theorem Q8 (hn:TC R) {N:Nat} (hN:N<=2 ^ 40) (v:Nat):∀ (t:Ty) (inv:Bool),size t<2 ^ 60->H6 N t=true->∀ (x:AV),Bp (ren t) x->AW (env R) 62 [x,AD v,BB inv] fun r=>r=BB (C6 v inv t)
 | .mk k n i ts,inv,h,ht,x,hx=>by
  have hv:=KV hn hN ht hx;have ht':=ht;rw[H6] at ht;rw[ren] at hx;rw[C6];simp only[size] at h;cases b7:(k==7) with
  | true=>
   rw[b7] at hx hv ht;simp only[AE,AG,BT] at hx hv ht;obtain⟨a,rfl,ha⟩:=hx;refine e62 (u0:=.agg [AD 2,SS (36::GH i.toNat),AD 0,a]) (u1:=AD v) (u2:=BB inv) (by simp[ha.close]) (AAx ?_);refine DY rfl (by simp[ha.ok]) (DY rfl rfl (DY rfl rfl (Az rfl rfl (AI hv ?_))));rintro _ rfl;refine Bq rfl (Bq rfl (BZ (Ax rfl rfl (CC ?_))));simp only[AE];cases he:(i==(v:Int)) with
   | true=>exact A8 (Ax rfl rfl (A8 (nt (pk ⟨_,Ic,by cases inv <;> rfl⟩))))
   | false=>exact Cy (Cy (pk ⟨_,Ic,by cases inv <;> rfl⟩))
  | false=>
   rw[b7] at hx hv ht;simp only[AB,AG,BT] at hx hv ht;obtain⟨a,rfl,ha⟩:=hx;have ih:=PA hn hN v ts (inv&&!(k==2)) (by omega) ht.2.2;refine e62 (u0:=.agg [AD k,SS n,AD i,a]) (u1:=AD v) (u2:=BB inv) (by simp[ha.close]) (AAx ?_);refine DY rfl (by simp[ha.ok]) (DY rfl rfl (DY rfl rfl (Az rfl rfl (AI hv ?_))));rintro _ rfl;refine Bq rfl (Bq rfl (BQ (AIe (Aq rfl (Ax rfl rfl ?_)))))
   have hs:B9 ⟨[[AD k,SS n,AD i,a],[AD v],[BB inv]],[]⟩:=by
    intro b hb;simp only[Av,Fs,FL] at hb;rcases hb with rfl|rfl|rfl <;> simp[AU,Aa,ha.Aa]
   have hsz:=Cq ts
   have Hs:BP a (ts.map fun t=>Ah (ren t)):=by
    rw[Ie,Bf,OL] at ha;exact ha
   refine⟨_,_,YB (fun t=>Am (ren t)) (g:=fun t=>C6 v (inv&&!(k==2)) t) (f:=103) (cs:=[.ptr 1 0,.ptr 2 0,.ptr 0 0]) Hs (by omega) hs (by simp[BN,Dl]) ?_ _,?_⟩
   ·intro t hm L
    have hc:=ih t hm
    obtain⟨w,s',⟨rfl,rfl⟩,Y2⟩:=AOe (R:=R) (L:=L) (s:=⟨[[AD k,SS n,AD i,a],[AD v],[BB inv]],[]⟩) (t0:=.agg ((Ah (ren t)).map .pv)) (t1:=.ptr 1 0) (t2:=.ptr 2 0) (t3:=.ptr 0 0) (Post:=fun w s'=>w=BB (C6 v (inv&&!(k==2)) t)/\s'=⟨[[AD k,SS n,AD i,a],[AD v],[BB inv]],[]⟩) (by simp[BN,Dl]) (AEg (by
     generalize hr:(Ah (ren t)).map AV.pv=r at hc;have hrl:r.length=4:=by rw[<-hr,AZ,Am]
     have hro:r.all Ar=true:=by rw[<-hr]; exact DZ _
     refine DY rfl hro (Az rfl hrl (Ax rfl rfl (Ax rfl rfl ?_)))
     have fin:∀ (b:Bool) (s1:AK),s1=⟨[[AD k,SS n,AD i,a],[AD v],[BB inv],r],[]⟩->b=(inv&&!(k==2))->Fe (env R) (Ca (env R) 103 0 L.ro L.rt) (.func (.func 62) [] []) [.agg r,AD v,BB b] s1 (fun a14 y6=>QM (L.rr 103) 3 (fun w s'=>w=BB (C6 v (inv&&!(k==2)) t)/\s'=⟨[[AD k,SS n,AD i,a],[AD v],[BB inv]],[]⟩) a14 y6):=by
      rintro b s1 rfl rfl;refine AI hc ?_;rintro _ rfl;exact JH (s:=⟨[[AD k,SS n,AD i,a],[AD v],[BB inv]],[]⟩) hs (m:=[r]) (p:=.sc (.bool _)) ⟨rfl,rfl⟩
     cases inv with
     | true=>exact A8 (Aq rfl (A8 (Ax rfl rfl (A8 (Fk (pk (fin _ _ rfl (by simp[bne]))))))))
     | false=>exact Cy (Cy (Cy (pk (fin _ _ rfl rfl))))))
    exact Y2
   ·refine⟨_,Ic,?_⟩
    have:∀ l:List Ty,l.any (fun t=>C6 v (inv&&!(k==2)) t)=GD v (inv&&!(k==2)) l:=by
     intro l
     induction l with
     | nil=>rfl
     | cons e l ih=>rw[J0,GD,ih]
    rw[this];rfl
theorem PA (hn:TC R) {N:Nat} (hN:N<=2 ^ 40) (v:Nat):∀ (l:List Ty) (inv:Bool),Ac l<2 ^ 60->I0 N l=true->∀ t∈l,AW (env R) 62 [.agg ((Ah (ren t)).map .pv),AD v,BB inv] fun r=>r=BB (C6 v inv t)
 | [],_,_,_,_,h=>by cases h
 | e::l,inv,h,ht,t,hm=>by
  simp only[Ac] at h;simp only[I0,AG] at ht;rcases Av.1 hm with h' | h'
  ·rw[h']
   exact Q8 hn hN v e inv (by omega) ht.1 _ (Bp.Ci _)
  ·exact PA hn hN v l inv (by omega) ht.2 t h'
end
end
theorem AW.told {E:Env} {f:FuncId} {fn:Func} {T:A0->List AV->AK->Option (AV×AK)} {args:List AV} {v:AV} {Post:AV->Prop} (hfn:E.P.funcs[f]?=some fn) (hc:E.clone f=true) (ht:E.told f=some T) (h:∀ L s,T L args s=some (v,s)) (hp:Post v):AW E f args Post:=by
 refine⟨v,hp,fun L s=>⟨1,fun m hm=>?_⟩⟩;obtain⟨m,rfl⟩:∃ k,m=k+1:=⟨m-1,by omega⟩;simp only[Cw,hfn,hc,AE,L8,ht];exact h L s
theorem Z8 {d:Nat} (h:d<10):(UInt8.ofNat (48+d)).toNat=48+d:=by
 rw[UInt8.toNat_ofNat'];omega
theorem Z9:∀ (f k n:Nat) (acc:List UInt8),0<k->n<10 ^ k->(KI f n acc).length<=acc.length+k
 | 0,k,n,acc,_,_=>by simp[KI]
 | f+1,k,n,acc,hk,hn=>by
  rw[KI];cases hb:Nat.blt n 10 with
  | true=>
   simp only[AE,A3];omega
  | false=>
   have h10:¬ n<10:=fun h=>by
    have:Nat.blt n 10=true:=IL h;rw[this] at hb;cases hb
   obtain⟨j,rfl⟩:∃ j,k=j+1:=⟨k-1,by omega⟩;rw[OW] at hn
   have hj:0<j:=by
    rcases j with _|j
    ·simp at hn; omega
    ·omega
   have:=Z9 f j (n / 10) (UInt8.ofNat (48+n % 10)::acc) hj (by omega);simp only[A3] at this;simp only[AB];omega
theorem TD {d a:Nat} (h:d<10) (l:List UInt8):Ku (UInt8.ofNat (48+d)::l) a=Ku l (a*10+d):=by
 rw[Ku,Z8 h,IL (by omega),IL (by omega)];have:48+d-48=d:=by omega
 rw[this];rfl
theorem TE:∀ (f n:Nat) (acc:List UInt8),n<10 ^ f->Ku (KI f n acc) 0=Ku acc n
 | 0,n,acc,h=>by
  have:n=0:=by simp at h; omega
  subst this;rfl
 | f+1,n,acc,h=>by
  rw[KI];cases hb:Nat.blt n 10 with
  | true=>
   have h10:n<10:=Cm hb;have:n % 10=n:=by omega
   simp only[AE];rw[TD (by omega),this];simp
  | false=>
   rw[OW] at h;simp only[AB];rw[TE f (n / 10) _ (by omega),TD (by omega)];congr 1;omega
theorem num {R:RT}:TC R:=by
 refine⟨fun n hn=>?_,fun n hn=>?_⟩
 ·refine AW.told (fn:=Tryz.f123) (T:=ld) Tryz.func123 (by kernel_rfl) (by kernel_rfl) (fun L s=>?_) rfl
  show(bif Nat.blt n 1099511627776 then some (SS (GH n),s) else none:Option (AV×AK))=_
  have:Nat.blt n 1099511627776=true:=IL hn;rw[this];rfl
 ·have hl:=TB n
  have Oc:(GH n).length<=18:=by
   have:=Z9 20 18 n [] (by decide) (GN hn (by decide));simpa[GH] using this
  have hu:Ku (GH n) 0=some n:=TE 20 n [] (GN hn (by decide));refine AW.told (fn:=Tryz.f124) (T:=eC) Tryz.func124 (by kernel_rfl) (by kernel_rfl) (fun L s=>?_) rfl;have e:(⟨(GH n).toArray⟩:ByteArray).data.toList=GH n:=by simp
  simp only[eC,e];rw[IL (show 1<=(GH n).length by omega),IL Oc];simp only[GR,AE,hu];rfl
mutual
def Ev (q:Int->Bool):Ty->Bool
 | .mk k n i ts=>bif k==7 then ts.isEmpty&&q i else !(n.head?==some 36)&&(decide (n.length<2 ^ 40)&&D8 q ts)
def D8 (q:Int->Bool):List Ty->Bool
 | []=>true
 | t::l=>Ev q t&&D8 q l
end
mutual
theorem Gf {q q':Int->Bool} (h:∀ i,q i=true->q' i=true):∀ t:Ty,Ev q t=true->Ev q' t=true
 | .mk k n i ts,ht=>by
  rw[Ev] at ht ⊢;cases h7:k==7 with
  | true=>
   rw[h7] at ht;simp only[AE,AG] at ht ⊢;exact⟨ht.1,h i ht.2⟩
  | false=>
   rw[h7] at ht;simp only[AB,AG] at ht ⊢;exact⟨ht.1,ht.2.1,TF h ts ht.2.2⟩
theorem TF {q q':Int->Bool} (h:∀ i,q i=true->q' i=true):∀ l:List Ty,D8 q l=true->D8 q' l=true
 | [],_=>rfl
 | t::l,ht=>by
  simp only[D8,AG] at ht ⊢;exact⟨Gf h t ht.1,TF h l ht.2⟩
end
theorem Vp {q:Int->Bool}:∀ {l:List Ty} {t:Ty},D8 q l=true->t∈l->Ev q t=true
 | [],_,_,h=>by cases h
 | a::l,t,h,ht=>by
  simp only[D8,AG] at h;rcases Av.1 ht with rfl|ht
  ·exact h.1
  ·exact Vp h.2 ht
theorem PB {q:Int->Bool}:∀ (l m:List Ty),D8 q (l++m)=(D8 q l&&D8 q m)
 | [],m=>by simp[D8]
 | t::l,m=>by simp[D8,PB l m,OU]
mutual
theorem aA {q:Int->Bool} {v:Nat} (hv:q v=true):∀ (t:Ty) (u:Nat),Ev q t=true->Ev q (sub v u t)=true
 | .mk k n i ts,u,h=>by
  rw[Ev] at h;rw[sub];cases h5:k==5 with
  | true=>
   have b7:(k==7)=false:=by
    have:k=5:=by simpa using h5
    subst this;rfl
   simp only[AE];cases i==(u:Int) with
   | true=>simp[Ev,hv]
   | false=>
    simp only[AB];cases decide ((u:Int)<i) with
    | true=>rw[b7] at h; rw[AE,Ev,b7]; exact h
    | false=>rw[b7] at h; rw[AB,Ev,b7]; exact h
  | false=>
   simp only[AB];rw[Ev];cases h7:k==7 with
   | true=>
    rw[h7] at h;simp only[AE,AG,IM] at h ⊢;rw[h.1];exact⟨rfl,h.2⟩
   | false=>
    rw[h7] at h;simp only[AB,AG] at h ⊢;exact⟨h.1,h.2.1,Vq hv ts u k 0 h.2.2⟩
theorem Vq {q:Int->Bool} {v:Nat} (hv:q v=true):∀ (l:List Ty) (u:Nat) (k:Int) (j:Nat),D8 q l=true->D8 q (KT v u k j l)=true
 | [],_,_,_,_=>rfl
 | t::l,u,k,j,h=>by
  simp only[D8,AG] at h;simp only[KT,D8,AG];exact⟨aA hv t _ h.1,Vq hv l u k (j+1) h.2⟩
end
mutual
theorem TG {q m:Int->Bool} {b:Ty} (hb:Ev q b=true):∀ (t:Ty) (k:Nat),Ev q t=true->Ev q (KU m b t k)=true
 | .mk c n i ts,k,h=>by
  have h':=h;rw[Ev] at h;rw[KU];cases h7:c==7 with
  | true=>
   simp only[AE];cases m i&&k==0 with
   | true=>exact hb
   | false=>exact h'
  | false=>
   rw[h7] at h;simp only[AB,AG] at h ⊢;cases c==3 with
   | true=>
    rw[AE,Ev,h7];simp only[AB,AG];exact⟨h.1,h.2.1,Vr hb ts k h.2.2⟩
   | false=>exact h'
theorem Vr {q m:Int->Bool} {b:Ty} (hb:Ev q b=true):∀ (l:List Ty) (k:Nat),D8 q l=true->D8 q (Jv m b l k)=true
 | [],_,_=>rfl
 | t::l,k,h=>by
  simp only[D8,AG] at h;rw[Jv];cases decide (k<BF m t) with
  | true=>
   simp only[AE,D8,AG];exact⟨TG hb t k h.1,h.2⟩
  | false=>
   simp only[AB,D8,AG];exact⟨h.1,Vr hb l _ h.2⟩
end
mutual
theorem Rx {m:Int->Bool} {b:Ty}:∀ (t:Ty) (k:Nat),k<BF m t->BF m (KU m b t k)+1=BF m t+BF m b/\size (KU m b t k)<=size t+size b
 | .mk c n i ts,k,h=>by
  rw[BF] at h;rw[KU];cases h7:c==7 with
  | true=>
   rw[h7] at h;simp only[AE] at h ⊢;cases hm:m i with
   | false=>rw[hm] at h; simp at h
   | true=>
    rw[hm] at h;have hk:k=0:=by simp at h; exact h
    subst hk;have e:BF m (.mk c n i ts)=1:=by rw[BF,h7,hm]; rfl
    simp only[BH,GR,AE,e];omega
  | false=>
   rw[h7] at h;simp only[AB] at h ⊢;cases h3:c==3 with
   | false=>rw[h3] at h; simp at h
   | true=>
    rw[h3] at h;simp only[AE] at h ⊢;have:=aB (m:=m) (b:=b) ts k h;rw[BF,BF,h7,h3];simp only[AE,AB,size];omega
theorem aB {m:Int->Bool} {b:Ty}:∀ (l:List Ty) (k:Nat),k<CP m l->CP m (Jv m b l k)+1=CP m l+BF m b/\Ac (Jv m b l k)<=Ac l+size b
 | [],k,h=>by simp[CP] at h
 | t::l,k,h=>by
  rw[CP] at h;rw[Jv]
  by_cases hk:k<BF m t
  ·have:=Rx (m:=m) (b:=b) t k hk
   simp only[Au hk,AE,CP,Ac];omega
  ·have:=aB (m:=m) (b:=b) l (k-BF m t) (by omega)
   simp only[A9 hk,AB,CP,Ac];omega
end
mutual
theorem qd {m:Int->Bool} {b:Ty}:∀ (t:Ty) (k:Nat),BF m t<=k->KU m b t k=t
 | .mk c n i ts,k,h=>by
  rw[BF] at h;rw[KU];cases h7:c==7 with
  | true=>
   rw[h7] at h;simp only[AE] at h ⊢;cases hm:m i with
   | false=>rfl
   | true=>
    rw[hm] at h
    have hk:(k==0)=false:=by
     simp only[AE] at h;simp only[D1,ne_eq];omega
    rw[hk];rfl
  | false=>
   rw[h7] at h;simp only[AB] at h ⊢;cases h3:c==3 with
   | false=>rfl
   | true=>
    rw[h3] at h;simp only[AE] at h ⊢;rw[Vs ts k h]
theorem Vs {m:Int->Bool} {b:Ty}:∀ (l:List Ty) (k:Nat),CP m l<=k->Jv m b l k=l
 | [],_,_=>rfl
 | t::l,k,h=>by
  rw[CP] at h;rw[Jv,A9 (by omega),AB,Vs (m:=m) (b:=b) l (k-BF m t) (by omega)]
end
mutual
theorem PC {q:Int->Bool} {v:Nat} (hv:q v=false):∀ (t:Ty) (inv:Bool),Ev q t=true->C6 v inv t=false/\BF (·==(v:Int)) t=0
 | .mk k n i ts,inv,h=>by
  rw[Ev] at h;rw[C6,BF];cases h7:k==7 with
  | true=>
   rw[h7] at h;simp only[AE,AG] at h ⊢
   have:(i==(v:Int))=false:=by
    cases he:i==(v:Int) with
    | false=>rfl
    | true=>
     have:i=v:=by simpa using he
     rw[this,hv] at h;cases h.2
   rw[this];exact⟨rfl,rfl⟩
  | false=>
   rw[h7] at h;simp only[AB,AG] at h ⊢;have:=Vt hv ts (inv&&!(k==2)) h.2.2;refine⟨this.1,?_⟩;cases k==3 with
   | true=>exact this.2
   | false=>rfl
theorem Vt {q:Int->Bool} {v:Nat} (hv:q v=false):∀ (l:List Ty) (inv:Bool),D8 q l=true->GD v inv l=false/\CP (·==(v:Int)) l=0
 | [],_,_=>⟨rfl,rfl⟩
 | t::l,inv,h=>by
  simp only[D8,AG] at h;have h1:=PC hv t inv h.1;have h2:=Vt hv l inv h.2;rw[GD,CP,h1.1,h1.2,h2.1,h2.2];exact⟨rfl,rfl⟩
end
section
variable {Ai:Nat->Bool}
theorem Ih {α:Type} {g:α->List Ty->GF} (hg:∀ a B,B.length<=(g a B).2.length):∀ (l:List α) (out B:List Ty),B.length<=(CN Ai g l out B).2.length
 | [],_,_=>AL _
 | a::l,out,B=>by
  have h:=hg a B;rw[CN];rcases hr:g a B with ⟨_|r,B1⟩
  ·rw[hr] at h
   exact h
  ·rw[hr] at h
   simp only at h ⊢;cases Ai (out++r).length with
   | true=>exact h
   | false=>exact Bh h (Ih hg l (out++r) B1)
theorem Jf {α:Type} {g:α->List Ty->GF} (hm:∀ a B,B.length<=(g a B).2.length) {P:Ty->Prop} {lo M:Nat}:∀ (l:List α) (out B:List Ty) (r:List Ty),(∀ a∈l,∀ B r,lo<=B.length->(g a B).1=some r->(g a B).2.length<=M->∀ p∈r,P p) ->
  lo<=B.length->(CN Ai g l out B).1=some r->(CN Ai g l out B).2.length<=M->(∀ p∈out,P p)->∀ p∈r,P p
 | [],out,B,r,_,_,h,_,ho=>by
  rw[CN] at h;cases h;exact ho
 | a::l,out,B,r,hg,hlo,h,hM,ho=>by
  have h1:=hm a B;have h2:=hg a (by simp) B;rw[CN] at h hM;rcases hr:g a B with ⟨_|s,B1⟩
  ·rw[hr] at h
   cases h
  ·rw[hr] at h hM h1 h2
   simp only at h hM h1 h2;cases hb:Ai (out++s).length with
   | true=>rw[hb] at h; cases h
   | false=>
    rw[hb] at h hM;simp only[AB] at h hM;have h3:=Ih (Ai:=Ai) hm l (out++s) B1;refine Jf hm l (out++s) B1 r (fun a ha=>hg a (by simp[ha])) (by omega) h hM ?_;intro p hp;rcases BL.1 hp with hp|hp
    ·exact ho p hp
    ·exact h2 s hlo rfl (by omega) p hp
theorem H7 {ex:List Ty->GF} (hx:∀ B,B.length<=(ex B).2.length) (v:Nat):∀ (f:Nat) (t:Ty) (B:List Ty),B.length<=(B8 Ai ex v f t B).2.length
 | 0,_,_=>AL _
 | f+1,t,B=>by
  have h:=hx B;rw[B8];cases C6 v false t with
  | false=>exact AL _
  | true=>
   rcases hr:ex B with ⟨_|r,B1⟩
   ·rw[hr] at h
    exact h
   ·rw[hr] at h
    exact Bh h (Ih (fun c B=>H7 hx v f _ B) r [] B1)
theorem Vu {ex:List Ty->GF} (hx:∀ B,B.length<=(ex B).2.length) {v lo M W S:Nat} {q:Int->Bool} (hr:∀ B r,lo<=B.length->(ex B).1=some r->(ex B).2.length<=M->∀ c∈r,Ev q c=true/\BF (·==(v:Int)) c=0/\size c<=W) :
  ∀ (f:Nat) (t:Ty) (B r:List Ty),Ev q t=true->size t+BF (·==(v:Int)) t*W<=S->lo<=B.length->(B8 Ai ex v f t B).1=some r->(B8 Ai ex v f t B).2.length<=M->∀ p∈r,Ev q p=true/\size p<=S
 | 0,t,B,r,ht,hS,_,h,_=>by
  rw[B8] at h;cases h;intro p hp;rw[Bj.1 hp];exact⟨ht,by omega⟩
 | f+1,t,B,r,ht,hS,hlo,h,hM=>by
  have h1:=hx B;have h2:=hr B;rw[B8] at h hM;cases ho:C6 v false t with
  | false=>
   rw[ho] at h;cases h;intro p hp;rw[Bj.1 hp];exact⟨ht,by omega⟩
  | true=>
   rw[ho] at h hM;simp only[AE] at h hM;rcases he:ex B with ⟨_|cs,B1⟩
   ·rw[he] at h
    cases h
   ·rw[he] at h hM h1 h2
    simp only at h hM h1 h2;have h3:=Ih (Ai:=Ai) (g:=fun c B=>B8 Ai ex v f (KU (·==(v:Int)) c t 0) B) (fun c B=>H7 hx v f _ B) cs [] B1;have h4:=h2 cs hlo rfl (by omega);refine Jf (fun c B=>H7 hx v f _ B) (lo:=lo) cs [] B1 r ?_ (by omega) h hM (by simp);intro c hc B' r' o9 h' Y3;obtain⟨c1,c2,c3⟩:=h4 c hc;refine Vu hx hr f _ B' r' (TG c1 t 0 ht) ?_ o9 h' Y3
    by_cases hk:0<BF (·==(v:Int)) t
    ·obtain⟨d1,d2⟩:=Rx (b:=c) t 0 hk
     have:BF (·==(v:Int)) t*W=BF (·==(v:Int)) (KU (·==(v:Int)) c t 0)*W+W:=by
      rw[<-FO];congr 1;omega
     omega
    ·rw[qd t 0 (by omega)]
     exact hS
end
def wx:List Nat->List Nat->Nat
 | [b,c],[_,d]=>c+max 1 d*b
 | _,_=>0
mutual
def wt:Ty->Nat
 | .mk k _ _ ts=>bif k==6 then wx (Vv ts) (Lt ts) else bif k==3||k==4 then 1+(Vv ts).sum else 1+Ac ts
def Vv:List Ty->List Nat
 | []=>[]
 | t::l=>wt t::Vv l
end
theorem y7 {l m p:List Nat} (h:CY (·<=·) l m):wx l p<=wx m p:=by
 match l,m,h with
 | [],[],_=>exact AL _
 | [_],[_],_=>exact AL _
 | [b,c],[b',c'],h=>
  obtain⟨h1,h2,_⟩:=h
  match p with
  | []=>exact AL _
  | [_]=>exact AL _
  | [_,d]=>exact Nat.add_le_add h2 (EO _ h1)
  | _::_::_::_=>exact AL _
 | _::_::_::_,[_,_],h=>exact h.2.2.elim
 | [_,_],_::_::_::_,h=>exact h.2.2.elim
 | _::_::_::_,_::_::_::_,_=>
  match p with
  | []=>exact AL _
  | [_]=>exact AL _
  | [_,_]=>exact AL _
  | _::_::_::_=>exact AL _
mutual
theorem eu (v:Nat):∀ (t:Ty) (u:Nat),cv (sub v u t)=cv t
 | .mk k n i ts,u=>by
  rw[sub];cases h5:k==5 with
  | true=>
   have:k=5:=by simpa using h5
   subst this;simp only[AE];cases i==(u:Int) with
   | true=>rfl
   | false=>cases decide ((u:Int)<i) <;> rfl
  | false=>simp only[AB,cv,YC v ts u k 0]
theorem YC (v:Nat):∀ (l:List Ty) (u:Nat) (k:Int) (j:Nat),Lt (KT v u k j l)=Lt l
 | [],_,_,_=>rfl
 | t::l,u,k,j=>by rw[KT,Lt,Lt,eu v t _,YC v l u k (j+1)]
end
theorem aC:∀ {l m:List Nat},CY (·<=·) l m->l.sum<=m.sum
 | [],[],_=>AL _
 | a::l,b::m,h=>by
  have:=aC h.2;have:=h.1;simp only[Gq];omega
mutual
theorem qe (v:Nat):∀ (t:Ty) (u:Nat),size (sub v u t)<=size t
 | .mk k n i ts,u=>by
  rw[sub];cases k==5 with
  | true=>
   simp only[AE];cases i==(u:Int) with
   | true=>simp[size,Ac]
   | false=>cases decide ((u:Int)<i) <;> exact AL _
  | false=>
   have:=QH v ts u k 0;simp only[AB,size];omega
theorem QH (v:Nat):∀ (l:List Ty) (u:Nat) (k:Int) (j:Nat),Ac (KT v u k j l)<=Ac l
 | [],_,_,_=>AL _
 | t::l,u,k,j=>by
  have h1:=qe v t (u+HF k j);have h2:=QH v l u k (j+1);simp only[KT,Ac];omega
end
mutual
theorem qf (v:Nat):∀ (t:Ty) (u:Nat),wt (sub v u t)<=wt t
 | .mk k n i ts,u=>by
  rw[sub];cases h5:k==5 with
  | true=>
   have:k=5:=by simpa using h5
   subst this;simp only[AE];cases i==(u:Int) with
   | true=>simp[wt,Ac]
   | false=>cases decide ((u:Int)<i) <;> exact AL _
  | false=>
   have h1:=QH v ts u k 0;have h2:=jM v ts u k 0;have h3:=y7 (p:=Lt ts) h2;have h4:=aC h2;simp only[AB,wt,YC v ts u k 0];cases k==6 with
   | true=>exact h3
   | false=>
    simp only[AB];cases (k==3||k==4) with
    | true=>simp only[AE]; omega
    | false=>simp only[AB]; omega
theorem jM (v:Nat):∀ (l:List Ty) (u:Nat) (k:Int) (j:Nat),CY (·<=·) (Vv (KT v u k j l)) (Vv l)
 | [],_,_,_=>trivial
 | t::l,u,k,j=>⟨qf v t _,jM v l u k (j+1)⟩
end
mutual
theorem PD (m:Int->Bool):∀ t:Ty,BF m t<=size t
 | .mk c n i ts=>by
  have:=Nf m ts;rw[BF,size];cases c==7 with
  | true=>cases m i <;> simp only[AE,AB] <;> omega
  | false=>cases c==3 <;> simp only[AE,AB] <;> omega
theorem Nf (m:Int->Bool):∀ l:List Ty,CP m l<=Ac l
 | []=>AL _
 | t::l=>by
  have h1:=PD m t;have h2:=Nf m l;rw[CP,Ac];omega
end
section
variable {Ai:Nat->Bool}
theorem JP {ex:List Ty->GF} (hx:∀ B,B.length<=(ex B).2.length) (v:Nat) (t:Ty) (B:List Ty):B.length<=(BX Ai ex v t B).2.length:=by
 rw[BX];cases C6 v true t with
 | true=>exact AL _
 | false=>exact H7 hx v _ t B
theorem PE {ex:Ty->List Ty->GF} (hx:∀ t B,B.length<=(ex t B).2.length):∀ (l out:List Ty) (ok:Bool) (B:List Ty),B.length<=(FH ex l out ok B).2.length
 | [],_,_,_=>AL _
 | t::l,out,ok,B=>by
  have h:=hx t B;rw[FH];rcases hr:ex t B with ⟨_|r,B1⟩
  ·rw[hr] at h
   exact Bh h (PE hx l out false B1)
  ·rw[hr] at h
   exact Bh h (PE hx l (out++r) ok B1)
theorem TH {ex:Ty->List Ty->GF} (hx:∀ t B,B.length<=(ex t B).2.length):∀ (l:List Ty) (out:List (List Ty)) (B:List Ty),B.length<=(Er ex l out B).2.length
 | [],_,_=>AL _
 | t::l,out,B=>by
  have h:=hx t B;rw[Er];rcases hr:ex t B with ⟨_|r,B1⟩
  ·rw[hr] at h
   exact h
  ·rw[hr] at h
   exact Bh h (TH hx l (out++[r]) B1)
theorem Jg:∀ (f:Nat) (t:Ty) (B:List Ty),B.length<=(Aj Ai f t B).2.length
 | 0,_,_=>AL _
 | f+1,.mk k n i ts,B=>by
  have hf:=Jg f;rw[Aj];cases k==0||k==2||k==7 with
  | true=>exact AL _
  | false=>
   simp only[AB];cases k==4 with
   | true=>
    have:=PE hf ts [] true B;rcases hs:FH (Aj Ai f) ts [] true B with ⟨⟨o,ok⟩,B1⟩
    rw[hs] at this;exact this
   | false=>
    simp only[AB];cases k==3 with
    | true=>
     have:=TH hf ts [] B;simp only[AE];rcases hs:Er (Aj Ai f) ts [] B with ⟨_|ls,B1⟩
     ·rw[hs] at this
      exact this
     ·rw[hs] at this
      simp only;cases ls.any List.isEmpty with
      | true=>exact this
      | false=>
       simp only[AB];cases DG Ai ls [[]] <;> exact this
    | false=>
     simp only[AB];cases k==6 with
     | false=>exact AL _
     | true=>
      simp only[AE]
      match ts with
      | []=>exact AL _
      | [_]=>exact AL _
      | _::_::_::_=>exact AL _
      | [b,body]=>
       have h1:=hf (sub B.length 0 body) (B++[b]);simp only[Zn];rcases hs:Aj Ai f (sub B.length 0 body) (B++[b]) with ⟨_|l,B1⟩
       ·rw[hs] at h1
        simp only[Ab,A3,BV] at h1 ⊢;omega
       ·rw[hs] at h1
        have h2:=Ih (Ai:=Ai) (g:=BX Ai (Aj Ai f b) B.length) (fun a B=>JP (hf b) _ a B) l [] B1;simp only[Ab,A3,BV] at h1 ⊢;rcases hc:CN Ai (BX Ai (Aj Ai f b) B.length) l [] B1 with ⟨_|o,B2⟩
        ·rw[hc] at h2
         simp only at h2 ⊢;omega
        ·rw[hc] at h2
         simp only at h2 ⊢;omega
end
section
variable {Ai:Nat->Bool}
def Pq (q:Int->Bool) (W:Nat) (p:Ty):Prop:=Ev q p=true/\size p<=W
theorem Pq.le {q:Int->Bool} {W V:Nat} {p:Ty} (h:Pq q W p) (hl:W<=V):Pq q V p:=⟨h.1,Bh h.2 hl⟩
theorem MZ {ex:Ty->List Ty->GF} (hx:∀ t B,B.length<=(ex t B).2.length) {P:Ty->Prop} {lo M:Nat}:∀ (l out:List Ty) (ok:Bool) (B:List Ty),(∀ t∈l,∀ B r,lo<=B.length->(ex t B).1=some r->(ex t B).2.length<=M->∀ p∈r,P p) ->
  lo<=B.length->(FH ex l out ok B).2.length<=M->(∀ p∈out,P p)->∀ p∈(FH ex l out ok B).1.1,P p
 | [],_,_,_,_,_,_,ho=>ho
 | t::l,out,ok,B,hg,hlo,hM,ho=>by
  have h1:=hx t B;have h2:=hg t (by simp) B;rw[FH] at hM ⊢;rcases hr:ex t B with ⟨_|s,B1⟩
  ·rw[hr] at hM h1
   exact MZ hx l out false B1 (fun a ha=>hg a (by simp[ha])) (by simp only at h1; omega) hM ho
  ·rw[hr] at hM h1 h2
   simp only at hM h1 h2 ⊢;have h3:=PE hx l (out++s) ok B1;refine MZ hx l (out++s) ok B1 (fun a ha=>hg a (by simp[ha])) (by omega) hM ?_;intro p hp;rcases BL.1 hp with hp|hp
   ·exact ho p hp
   ·exact h2 s hlo rfl (by omega) p hp
def Cho (P:Nat->Ty->Prop):List (List Ty)->List Nat->Prop:=CY fun l w=>∀ p∈l,P w p
theorem PG {ex:Ty->List Ty->GF} (hx:∀ t B,B.length<=(ex t B).2.length) {P:Nat->Ty->Prop} {w:Ty->Nat} {lo M:Nat}:∀ (l:List Ty) (out:List (List Ty)) (ws:List Nat) (B:List Ty) (r:List (List Ty)),(∀ t∈l,∀ B r,lo<=B.length->(ex t B).1=some r->(ex t B).2.length<=M->∀ p∈r,P (w t) p) ->
  lo<=B.length->(Er ex l out B).1=some r->(Er ex l out B).2.length<=M->Cho P out ws->Cho P r (ws++l.map w)
 | [],out,ws,B,r,_,_,h,_,ho=>by
  rw[Er] at h;cases h;simpa using ho
 | t::l,out,ws,B,r,hg,hlo,h,hM,ho=>by
  have h1:=hx t B;have h2:=hg t (by simp) B;rw[Er] at h hM;rcases hr:ex t B with ⟨_|s,B1⟩
  ·rw[hr] at h
   cases h
  ·rw[hr] at h hM h1 h2
   simp only at h hM h1 h2;have h3:=TH hx l (out++[s]) B1;have:=PG hx (P:=P) (w:=w) (lo:=lo) (M:=M) l (out++[s]) (ws++[w t]) B1 r (fun a ha=>hg a (by simp[ha])) (by omega) h hM (ho.append ⟨h2 s hlo rfl (by omega),Al⟩);simpa using this
theorem Vw {q:Int->Bool}:∀ (ls:List (List Ty)) (ws:List Nat) (out r:List (List Ty)) (W:Nat),Cho (Pq q) ls ws->DG Ai ls out=some r->(∀ p∈out,D8 q p=true/\Ac p<=W)->∀ p∈r,D8 q p=true/\Ac p<=W+ws.sum
 | [],ws,out,r,W,hc,h,ho=>by
  rw[DG] at h;cases h;intro p hp;have:=ho p hp;exact⟨this.1,by omega⟩
 | l::ls,[],_,_,_,hc,_,_=>hc.elim
 | l::ls,w::ws,out,r,W,hc,h,ho=>by
  rw[DG] at h;cases hb:Ai (out.flatMap fun p=>l.map fun x=>p++[x]).length with
  | true=>rw[hb] at h; cases h
  | false=>
   rw[hb] at h;simp only[AB] at h;intro p hp
   have:=Vw ls ws _ r (W+w) hc.2 h (by
    intro p hp;obtain⟨a,ha,hp⟩:=LB.1 hp;obtain⟨x,hx,rfl⟩:=Bb.1 hp;have h1:=ho a ha;have h2:=hc.1 x hx;refine⟨?_,?_⟩
    ·rw[PB,h1.1]
     simp[D8,h2.1]
    ·have:∀ (l:List Ty) (x:Ty),Ac (l++[x])=Ac l+size x:=by
      intro l x
      induction l with
      | nil=>simp[Ac]
      | cons y l ih=>simp only[EZ,Ac,ih]; omega
     rw[this];have:=h2.2;omega) p hp
   refine⟨this.1,?_⟩;simp only[Gq];omega
end
mutual
theorem Ry {m p:Int->Bool} (h:∀ i,m i=true->p i=true):∀ t:Ty,BF m t<=BF p t
 | .mk c n i ts=>by
  have:=aD h ts;rw[BF,BF];cases c==7 with
  | true=>
   have:=h i;cases hm:m i <;> cases hp:p i <;> simp_all
  | false=>cases c==3 <;> simp only[AE,AB] <;> omega
theorem aD {m p:Int->Bool} (h:∀ i,m i=true->p i=true):∀ l:List Ty,CP m l<=CP p l
 | []=>AL _
 | t::l=>by
  have h1:=Ry h t;have h2:=aD h l;rw[CP,CP];omega
end
mutual
theorem aE {m q:Int->Bool} {b:Ty}:∀ (t:Ty) (k:Nat),BF q (KU m b t k)<=BF q t+BF q b
 | .mk c n i ts,k=>by
  have ih:=Vx (m:=m) (q:=q) (b:=b) ts k;rw[KU];cases h7:c==7 with
  | true=>
   simp only[AE];cases m i&&k==0 <;> simp only[AE,AB] <;> omega
  | false=>
   simp only[AB];cases h3:c==3 with
   | true=>
    simp only[AE];rw[BF,BF,h7,h3];exact ih
   | false=>exact DT _ _
theorem Vx {m q:Int->Bool} {b:Ty}:∀ (l:List Ty) (k:Nat),CP q (Jv m b l k)<=CP q l+BF q b
 | [],_=>AM _
 | t::l,k=>by
  rw[Jv];cases decide (k<BF m t) with
  | true=>
   have:=aE (m:=m) (q:=q) (b:=b) t k;simp only[AE,CP];omega
  | false=>
   have:=Vx (m:=m) (q:=q) (b:=b) l (k-BF m t);simp only[AB,CP];omega
end
theorem PI (q:Int->Bool):∀ (l m:List Ty),CP q (l++m)=CP q l+CP q m
 | [],m=>by simp[CP]
 | t::l,m=>by rw[EZ,CP,CP,PI q l m]; omega
section
variable {Ai:Nat->Bool}
abbrev cA:Ty->Nat:=BF fun _=>true
theorem aF {ex:List Ty->GF} (hx:∀ B,B.length<=(ex B).2.length) {v C:Nat} (hr:∀ B r,(ex B).1=some r->∀ c∈r,cA c<=C) :
  ∀ (f:Nat) (t:Ty) (B r:List Ty),(B8 Ai ex v f t B).1=some r->∀ p∈r,cA p<=cA t+f*C
 | 0,t,B,r,h=>by
  rw[B8] at h;cases h;simp
 | f+1,t,B,r,h=>by
  have h2:=hr B;rw[B8] at h;cases ho:C6 v false t with
  | false=>
   rw[ho] at h;cases h;intro p hp;rw[Bj.1 hp];omega
  | true=>
   rw[ho] at h;simp only[AE] at h;rcases he:ex B with ⟨_|cs,B1⟩
   ·rw[he] at h
    cases h
   ·rw[he] at h h2
    simp only at h h2;refine Jf (fun c B=>H7 hx v f _ B) (lo:=0) cs [] B1 r ?_ (AM _) h (AL _) (by simp);intro c hc B' r' _ h' _ p hp;have h3:=aF hx hr f _ B' r' h' p hp;have h4:=aE (m:=(·==(v:Int))) (q:=fun _=>true) (b:=c) t 0;have h5:=h2 cs rfl c hc;simp only[cA] at h3 h4 h5 ⊢;rw[FO];omega
theorem QJ {q:Int->Bool}:∀ (ls:List (List Ty)) (ws:List Nat) (out r:List (List Ty)) (W:Nat),Cho (fun w p=>BF q p<=w) ls ws->DG Ai ls out=some r->(∀ p∈out,CP q p<=W)->∀ p∈r,CP q p<=W+ws.sum
 | [],ws,out,r,W,hc,h,ho=>by
  rw[DG] at h;cases h;intro p hp;have:=ho p hp;omega
 | l::ls,[],_,_,_,hc,_,_=>hc.elim
 | l::ls,w::ws,out,r,W,hc,h,ho=>by
  rw[DG] at h;cases hb:Ai (out.flatMap fun p=>l.map fun x=>p++[x]).length with
  | true=>rw[hb] at h; cases h
  | false=>
   rw[hb] at h;simp only[AB] at h;intro p hp
   have:=QJ ls ws _ r (W+w) hc.2 h (by
    intro p hp;obtain⟨a,ha,hp⟩:=LB.1 hp;obtain⟨x,hx,rfl⟩:=Bb.1 hp;have h1:=ho a ha;have h2:BF q x<=w:=hc.1 x hx;rw[PI];simp only[CP];omega) p hp
   simp only[Gq];omega
theorem YD:∀ (f:Nat) (t:Ty) (B r:List Ty),(Aj Ai f t B).1=some r->∀ p∈r,cA p<=cv t
 | 0,_,_,_,h=>by cases h
 | f+1,.mk k n i ts,B,r,h=>by
  have hf:=fun t B=>Jg (Ai:=Ai) f t B
  have ih:=YD f;rw[Aj] at h;cases h0:k==0||k==2||k==7 with
  | true=>
   rw[h0] at h;simp only[AE] at h;cases hb:Ai 1 with
   | true=>rw[hb] at h; cases h
   | false=>
    rw[hb] at h;cases h;intro p hp;have:k=0\/k=2\/k=7:=by simpa[or_assoc] using h0
    rw[Bj.1 hp];rcases this with rfl|rfl|rfl <;> simp[cA,BF,cv]
  | false=>
   rw[h0] at h;simp only[AB] at h;cases h4:k==4 with
   | true=>
    have hk:k=4:=by simpa using h4
    subst hk;rw[h4] at h;simp only[AE] at h
    have key:=MZ hf (P:=fun p=>cA p<=cv (.mk 4 n i ts)) (lo:=0) (M:=(FH (Aj Ai f) ts [] true B).2.length) ts [] true B (fun t hm B' r _ h _ p hp=>Bh (ih t B' r h p hp) (by
     have:cv (.mk 4 n i ts)=(ts.map cv).sum:=by rw[cv,QC]; rfl
     rw[this];exact FX (Ed hm))) (AM _) (AL _) (by simp)
    rcases hs:FH (Aj Ai f) ts [] true B with ⟨⟨o,ok⟩,B1⟩
    rw[hs] at h key;simp only at h key;cases hb:ok&&!Ai o.length with
    | false=>rw[hb] at h; cases h
    | true=>
     rw[hb] at h;cases h;exact key
   | false=>
    rw[h4] at h;simp only[AB] at h;cases h3:k==3 with
    | true=>
     have hk:k=3:=by simpa using h3
     subst hk;rw[h3] at h;simp only[AE] at h;have key:=fun r h=>PG hf (P:=fun w p=>cA p<=w) (w:=cv) (lo:=0) (M:=(Er (Aj Ai f) ts [] B).2.length) ts [] [] B r (fun t _ B' r _ h _ p hp=>ih t B' r h p hp) (AM _) h (AL _) Al
     rcases hs:Er (Aj Ai f) ts [] B with ⟨_|ls,B1⟩
     ·rw[hs] at h
      cases h
     ·rw[hs] at h key
      simp only at h key;cases he:ls.any List.isEmpty with
      | true=>
       rw[he] at h;cases h;simp
      | false=>
       rw[he] at h;simp only[AB] at h;cases hc:DG Ai ls [[]] with
       | none=>rw[hc] at h; cases h
       | some all=>
        rw[hc] at h;simp only at h;cases hb:Ai all.length with
        | true=>rw[hb] at h; cases h
        | false=>
         rw[hb] at h;cases h;intro p hp;obtain⟨a,ha,rfl⟩:=Bb.1 hp;have h5:=QJ (q:=fun _=>true) ls _ _ all 0 (key ls rfl) hc (by simp[CP]) a ha;simp only[Di,CJ] at h5;rw[cA,BF,cv,QC];exact h5
    | false=>
     rw[h3] at h;simp only[AB] at h;cases h6:k==6 with
     | false=>
      rw[h6] at h;simp only[AB] at h;cases hb:Ai 0 with
      | true=>rw[hb] at h; cases h
      | false=>
       rw[hb] at h;cases h;simp
     | true=>
      have hk:k=6:=by simpa using h6
      subst hk;rw[h6] at h;simp only[AE] at h
      match ts with
      | []=>cases h; simp
      | [_]=>cases h; simp
      | _::_::_::_=>cases h; simp
      | [b,body]=>
       simp only[Zn] at h;rcases hs:Aj Ai f (sub B.length 0 body) (B++[b]) with ⟨_|l,B1⟩
       ·rw[hs] at h
        cases h
       ·rw[hs] at h
        have TI:=ih (sub B.length 0 body) (B++[b]) l (by rw[hs]);rw[eu] at TI;have key:=fun r h1 h=>Jf (Ai:=Ai) (g:=BX Ai (Aj Ai f b) B.length) (fun a B=>JP (hf b) _ a B) (P:=fun p=>cA p<=cv (.mk 6 n i [b,body])) (lo:=0) (M:=(CN Ai (BX Ai (Aj Ai f b) B.length) l [] B1).2.length) l [] B1 r h1 (AM _) h (AL _) (by simp)
        simp only at h;rcases hc:CN Ai (BX Ai (Aj Ai f b) B.length) l [] B1 with ⟨_|o,B2⟩
        ·rw[hc] at h
         cases h
        ·rw[hc] at h key
         simp only at h key;cases hb:Ai o.length with
         | true=>rw[hb] at h; cases h
         | false=>
          rw[hb] at h;cases h;refine key r (fun a ha B' r' _ h' _ p hp=>?_) rfl;have e:cv (.mk 6 n i [b,body])=cv body*(cv b+1):=rfl;have ha1:=TI a ha;rw[e,Mr];rw[BX] at h';cases ho:C6 B.length true a with
          | true=>
           rw[ho] at h';cases h';rw[Bj.1 hp];omega
          | false=>
           rw[ho] at h';simp only[AB] at h';have h7:=aF (Ai:=Ai) (hf b) (C:=cv b) (fun B r h=>ih b B r h) _ a B' r' h' p hp;have h8:BF (·==(B.length:Int)) a<=cA a:=Ry (fun _ _=>rfl) a;have h9:BF (·==(B.length:Int)) a*cv b<=cv body*cv b:=CB _ (by omega);omega
end
section
variable {Ai:Nat->Bool}
theorem Lf:∀ l:List Ty,Vv l=l.map wt
 | []=>rfl
 | t::l=>by rw[Vv,Lf l]; rfl
theorem aG {k i:Int} {n:List UInt8} {ts:List Ty} (h:(k==0||k==2||k==7)=true):wt (.mk k n i ts)=size (.mk k n i ts):=by
 have:k=0\/k=2\/k=7:=by simpa[or_assoc] using h
 rcases this with rfl|rfl|rfl <;> simp[wt,size,Eb]
theorem Jh:∀ (f:Nat) (t:Ty) (B:List Ty) (M:Nat) (q:Int->Bool) (r:List Ty),(∀ i:Int,(B.length:Int)<=i->i<M->q i=true)->Ev (fun i=>q i&&decide (i<B.length)) t=true ->
  (Aj Ai f t B).1=some r->(Aj Ai f t B).2.length<=M->∀ p∈r,Pq q (wt t) p
 | 0,_,_,_,_,_,_,_,h,_=>by cases h
 | f+1,.mk k n i ts,B,M,q,r,hq,ht,h,hM=>by
  have hf:=fun t B=>Jg (Ai:=Ai) f t B
  have ih:=Jh f;have htq:Ev q (.mk k n i ts)=true:=Gf (fun i hi=>by simp only[AG] at hi; exact hi.1) _ ht;rw[Aj] at h hM;cases h0:k==0||k==2||k==7 with
  | true=>
   rw[h0] at h;simp only[AE] at h;cases hb:Ai 1 with
   | true=>rw[hb] at h; cases h
   | false=>
    rw[hb] at h;cases h;intro p hp;rw[Bj.1 hp];exact⟨htq,by rw[aG h0]; exact AL _⟩
  | false=>
   rw[h0] at h hM;simp only[AB] at h hM
   have h7:(k==7)=false:=by
    simp only[FM] at h0;exact h0.2
   rw[Ev,h7] at ht;simp only[AB,AG] at ht
   have part:∀ t∈ts,∀ (B' r:List Ty),B.length<=B'.length->(Aj Ai f t B').1=some r->(Aj Ai f t B').2.length<=M->∀ p∈r,Pq q (wt t) p:=by
    intro t hm B' r hl h hM;refine ih t B' M q r (fun i h1 h2=>hq i (by omega) h2) (Gf (fun i hi=>?_) _ (Vp ht.2.2 hm)) h hM;simp only[AG,BT] at hi ⊢;exact⟨hi.1,by omega⟩
   have wle:∀ t∈ts,wt t<=(Vv ts).sum:=by
    intro t hm;rw[Lf];exact FX (Bb.2 ⟨t,hm,rfl⟩)
   cases h4:k==4 with
   | true=>
    have hk:k=4:=by simpa using h4
    subst hk;rw[h4] at h hM;simp only[AE] at h hM
    have key:=MZ hf (P:=Pq q (wt (.mk 4 n i ts))) (lo:=B.length) (M:=M) ts [] true B (fun t hm B' r hl h hM p hp=>(part t hm B' r hl h hM p hp).le (by
     have:=wle t hm;simp only[wt]
     show wt t<=1+(Vv ts).sum
     omega)) (AL _)
    rcases hs:FH (Aj Ai f) ts [] true B with ⟨⟨o,ok⟩,B1⟩
    rw[hs] at h hM key;simp only at h hM key;cases hb:ok&&!Ai o.length with
    | false=>rw[hb] at h; cases h
    | true=>
     rw[hb] at h;cases h;exact key hM (by simp)
   | false=>
    rw[h4] at h hM;simp only[AB] at h hM;cases h3:k==3 with
    | true=>
     have hk:k=3:=by simpa using h3
     subst hk;rw[h3] at h hM;simp only[AE] at h hM;have key:=fun r=>PG hf (P:=Pq q) (w:=wt) (lo:=B.length) (M:=M) ts [] [] B r part (AL _)
     rcases hs:Er (Aj Ai f) ts [] B with ⟨_|ls,B1⟩
     ·rw[hs] at h
      cases h
     ·rw[hs] at h hM key
      simp only at h hM key;cases he:ls.any List.isEmpty with
      | true=>
       rw[he] at h;cases h;simp
      | false=>
       rw[he] at h hM;simp only[AB] at h hM;cases hc:DG Ai ls [[]] with
       | none=>rw[hc] at h; cases h
       | some all=>
        rw[hc] at h hM;simp only at h hM;cases hb:Ai all.length with
        | true=>rw[hb] at h; cases h
        | false=>
         rw[hb] at h;cases h;intro p hp;obtain⟨a,ha,rfl⟩:=Bb.1 hp;have h5:=Vw (q:=q) ls _ _ all 0 (key ls rfl hM Al) hc (by simp[D8,Ac]) a ha;refine⟨by simp[Ev,h5.1],?_⟩;have h6:=h5.2;simp only[Di,CJ] at h6;have e:wt (.mk 3 n i ts)=1+(ts.map wt).sum:=by rw[wt,Lf]; rfl
         rw[e];simp only[size];omega
    | false=>
     rw[h3] at h hM;simp only[AB] at h hM;cases h6:k==6 with
     | false=>
      rw[h6] at h;simp only[AB] at h;cases hb:Ai 0 with
      | true=>rw[hb] at h; cases h
      | false=>
       rw[hb] at h;cases h;simp
     | true=>
      have hk:k=6:=by simpa using h6
      subst hk;rw[h6] at h hM;simp only[AE] at h hM
      match ts,part,ht with
      | [],_,_=>cases h; simp
      | [_],_,_=>cases h; simp
      | _::_::_::_,_,_=>cases h; simp
      | [b,body],part,ht=>
       simp only[Zn] at h hM;have h1:=hf (sub B.length 0 body) (B++[b]);simp only[D8,AG] at ht;rcases hs:Aj Ai f (sub B.length 0 body) (B++[b]) with ⟨_|l,B1⟩
       ·rw[hs] at h
        cases h
       ·rw[hs] at h hM h1
        have h2:=Ih (Ai:=Ai) (g:=BX Ai (Aj Ai f b) B.length) (fun a B=>JP (hf b) _ a B) l [] B1;have key:=fun P r ZP=>Jf (Ai:=Ai) (g:=BX Ai (Aj Ai f b) B.length) (fun a B=>JP (hf b) _ a B) (P:=P) (lo:=B.length+1) (M:=M) l [] B1 r ZP
        simp only[Ab,A3,BV,CJ] at h1 h hM;rcases hc:CN Ai (BX Ai (Aj Ai f b) B.length) l [] B1 with ⟨_|o,B2⟩
        ·rw[hc] at h
         cases h
        ·rw[hc] at h hM h2 key
         simp only at h hM h2 key;cases hb:Ai o.length with
         | true=>rw[hb] at h; cases h
         | false=>
          rw[hb] at h;cases h
          have TI:=ih (sub B.length 0 body) (B++[b]) M q l (fun i h1 h2=>hq i (by simp at h1; omega) h2) (aA (by simp; exact⟨hq (B.length:Int) (by omega) (by omega),by omega⟩) body 0 (Gf (fun i hi=>by
           simp only[AG,BT] at hi ⊢;exact⟨hi.1,by simp; omega⟩) _ ht.2.2.2.1)) (by rw[hs]) (by rw[hs]; simp only; omega)
          have hwb:=qf B.length body 0;refine key (Pq q (wt (.mk 6 n i [b,body]))) r ?_ (by omega) rfl hM (by simp);intro a ha B' r' hlo h' Y3;obtain⟨ta,sa⟩:=TI a ha;have hsa:=Bh sa hwb;have hwt:wt (.mk 6 n i [b,body])=wt body+max 1 (cv body)*wt b:=rfl;have hca:=YD f (sub B.length 0 body) (B++[b]) l (by rw[hs]) a ha;rw[eu] at hca;rw[BX] at h' Y3;rw[hwt];cases ho:C6 B.length true a with
          | true=>
           rw[ho] at h';cases h';intro p hp;rw[Bj.1 hp];exact⟨ta,by omega⟩
          | false=>
           rw[ho] at h' Y3;simp only[AB] at h' Y3;have hcs:BF (·==(B.length:Int)) a<=cA a:=Ry (fun _ _=>rfl) a;refine Vu (Ai:=Ai) (hf b) (lo:=B.length+1) (M:=M) (W:=wt b) (q:=q) ?_ _ a B' r' ta ?_ hlo h' Y3
           ·intro B3 r3 hlo3 h3' hM3 c Hl
            have:=ih b B3 M (fun i=>q i&&!(i==(B.length:Int))) r3 (fun i h1 h2=>by
             simp only[AG,Fq,D1,ne_eq]
             exact⟨hq i (by omega) h2,by omega⟩) (Gf (fun i hi=>by
              simp only[AG,BT,Fq,D1,ne_eq] at hi ⊢;exact⟨⟨hi.1,by omega⟩,by omega⟩) _ ht.2.2.1) h3' hM3 c Hl
            refine⟨Gf (fun i hi=>by simp only[AG] at hi; exact hi.1) _ this.1,(PC (v:=B.length) (by simp) c false this.1).2,this.2⟩
           ·have:BF (·==(B.length:Int)) a*wt b<=max 1 (cv body)*wt b:=CB _ (by omega)
            omega
end
section
variable {Ai:Nat->Bool}
theorem Ji {α:Type} {g:α->List Ty->GF} (hg:∀ a B,B<+:(g a B).2):∀ (l:List α) (out B:List Ty),B<+:(CN Ai g l out B).2
 | [],_,_=>CW _
 | a::l,out,B=>by
  have h:=hg a B;rw[CN];rcases hr:g a B with ⟨_|r,B1⟩
  ·rw[hr] at h
   exact h
  ·rw[hr] at h
   simp only at h ⊢;cases Ai (out++r).length with
   | true=>exact h
   | false=>exact h.trans (Ji hg l (out++r) B1)
theorem H8 {ex:List Ty->GF} (hx:∀ B,B<+:(ex B).2) (v:Nat):∀ (f:Nat) (t:Ty) (B:List Ty),B<+:(B8 Ai ex v f t B).2
 | 0,_,_=>CW _
 | f+1,t,B=>by
  have h:=hx B;rw[B8];cases C6 v false t with
  | false=>exact CW _
  | true=>
   rcases hr:ex B with ⟨_|r,B1⟩
   ·rw[hr] at h
    exact h
   ·rw[hr] at h
    exact h.trans (Ji (fun c B=>H8 hx v f _ B) r [] B1)
theorem M4 {ex:List Ty->GF} (hx:∀ B,B<+:(ex B).2) (v:Nat) (t:Ty) (B:List Ty):B<+:(BX Ai ex v t B).2:=by
 rw[BX];cases C6 v true t with
 | true=>exact CW _
 | false=>exact H8 hx v _ t B
theorem PJ {ex:Ty->List Ty->GF} (hx:∀ t B,B<+:(ex t B).2):∀ (l out:List Ty) (ok:Bool) (B:List Ty),B<+:(FH ex l out ok B).2
 | [],_,_,_=>CW _
 | t::l,out,ok,B=>by
  have h:=hx t B;rw[FH];rcases hr:ex t B with ⟨_|r,B1⟩
  ·rw[hr] at h
   exact h.trans (PJ hx l out false B1)
  ·rw[hr] at h
   exact h.trans (PJ hx l (out++r) ok B1)
theorem TJ {ex:Ty->List Ty->GF} (hx:∀ t B,B<+:(ex t B).2):∀ (l:List Ty) (out:List (List Ty)) (B:List Ty),B<+:(Er ex l out B).2
 | [],_,_=>CW _
 | t::l,out,B=>by
  have h:=hx t B;rw[Er];rcases hr:ex t B with ⟨_|r,B1⟩
  ·rw[hr] at h
   exact h
  ·rw[hr] at h
   exact h.trans (TJ hx l (out++[r]) B1)
theorem HQ:∀ (f:Nat) (t:Ty) (B:List Ty),B<+:(Aj Ai f t B).2
 | 0,_,_=>CW _
 | f+1,.mk k n i ts,B=>by
  have hf:=HQ f;rw[Aj];cases k==0||k==2||k==7 with
  | true=>exact CW _
  | false=>
   simp only[AB];cases k==4 with
   | true=>
    have:=PJ hf ts [] true B;rcases hs:FH (Aj Ai f) ts [] true B with ⟨⟨o,ok⟩,B1⟩
    rw[hs] at this;exact this
   | false=>
    simp only[AB];cases k==3 with
    | true=>
     have:=TJ hf ts [] B;simp only[AE];rcases hs:Er (Aj Ai f) ts [] B with ⟨_|ls,B1⟩
     ·rw[hs] at this
      exact this
     ·rw[hs] at this
      simp only;cases ls.any List.isEmpty with
      | true=>exact this
      | false=>
       simp only[AB];cases DG Ai ls [[]] <;> exact this
    | false=>
     simp only[AB];cases k==6 with
     | false=>exact CW _
     | true=>
      simp only[AE]
      match ts with
      | []=>exact CW _
      | [_]=>exact CW _
      | _::_::_::_=>exact CW _
      | [b,body]=>
       have h1:=hf (sub B.length 0 body) (B++[b]);simp only[Zn];have h0:B<+:B++[b]:=XF _ _;rcases hs:Aj Ai f (sub B.length 0 body) (B++[b]) with ⟨_|l,B1⟩
       ·rw[hs] at h1
        exact h0.trans h1
       ·rw[hs] at h1
        have h2:=Ji (Ai:=Ai) (g:=BX Ai (Aj Ai f b) B.length) (fun a B=>M4 (hf b) _ a B) l [] B1;simp only at h1 ⊢;rcases hc:CN Ai (BX Ai (Aj Ai f b) B.length) l [] B1 with ⟨_|o,B2⟩
        ·rw[hc] at h2
         exact(h0.trans h1).trans h2
        ·rw[hc] at h2
         exact(h0.trans h1).trans h2
theorem Kv (h0:Ai 0=false):∀ (f:Nat) (t:Ty) (B r:List Ty),(Aj Ai f t B).1=some r->Ai r.length=false
 | 0,_,_,_,h=>by cases h
 | f+1,.mk k n i ts,B,r,h=>by
  rw[Aj] at h;cases cj:k==0||k==2||k==7 with
  | true=>
   rw[cj] at h;cases hb:Ai 1 with
   | true=>rw[hb] at h; cases h
   | false=>rw[hb] at h; cases h; exact hb
  | false=>
   rw[cj] at h;simp only[AB] at h;cases Ly:k==4 with
   | true=>
    rw[Ly] at h;simp only[AE] at h;rcases hs:FH (Aj Ai f) ts [] true B with ⟨⟨o,ok⟩,B1⟩
    rw[hs] at h;simp only at h;cases hb:Ai o.length with
    | true=>rw[hb] at h; simp at h
    | false=>rw[hb] at h; cases ok with
     | true=>cases h; exact hb
     | false=>cases h
   | false=>
    rw[Ly] at h;simp only[AB] at h;cases LS:k==3 with
    | true=>
     rw[LS] at h;simp only[AE] at h;rcases hs:Er (Aj Ai f) ts [] B with ⟨_|ls,B1⟩
     ·rw[hs] at h; cases h
     ·rw[hs] at h
      simp only at h;cases he:ls.any List.isEmpty with
      | true=>rw[he] at h; cases h; exact h0
      | false=>
       rw[he] at h;simp only[AB] at h;cases hc:DG Ai ls [[]] with
       | none=>rw[hc] at h; cases h
       | some all=>
        rw[hc] at h;simp only at h;cases hb:Ai all.length with
        | true=>rw[hb] at h; cases h
        | false=>rw[hb] at h; cases h; simpa using hb
    | false=>
     rw[LS] at h;simp only[AB] at h;cases Ux:k==6 with
     | false=>
      rw[Ux] at h;simp only[AB] at h;rw[h0] at h;cases h;exact h0
     | true=>
      rw[Ux] at h;simp only[AE] at h
      match ts with
      | []=>cases h; exact h0
      | [_]=>cases h; exact h0
      | _::_::_::_=>cases h; exact h0
      | [b,body]=>
       simp only[Zn] at h;rcases hs:Aj Ai f (sub B.length 0 body) (B++[b]) with ⟨_|l,B1⟩
       ·rw[hs] at h; cases h
       ·rw[hs] at h
        simp only at h;rcases hc:CN Ai (BX Ai (Aj Ai f b) B.length) l [] B1 with ⟨_|o,B2⟩
        ·rw[hc] at h; cases h
        ·rw[hc] at h
         simp only at h;cases hb:Ai o.length with
         | true=>rw[hb] at h; cases h
         | false=>rw[hb] at h; cases h; exact hb
end
mutual
def inp:Ty->Bool
 | .mk k _ _ ts=>bif k==0 then ts.isEmpty else bif k==3||k==4||k==6 then TK ts else true
def TK:List Ty->Bool
 | []=>true
 | t::l=>inp t&&TK l
end
mutual
def pat:Ty->Bool
 | .mk k _ _ ts=>bif k==7||k==2 then true else bif k==3 then Lz ts else ts.isEmpty
def Lz:List Ty->Bool
 | []=>true
 | t::l=>pat t&&Lz l
end
theorem TL:∀ {l:List Ty} {t:Ty},TK l=true->t∈l->inp t=true
 | [],_,_,h=>by cases h
 | a::l,t,h,ht=>by
  simp only[TK,AG] at h;rcases Av.1 ht with rfl|ht
  ·exact h.1
  ·exact TL h.2 ht
theorem Q9:∀ (l m:List Ty),Lz (l++m)=(Lz l&&Lz m)
 | [],m=>by simp[Lz]
 | t::l,m=>by simp[Lz,Q9 l m,OU]
mutual
theorem jN (v:Nat):∀ (t:Ty) (u:Nat),inp t=true->inp (sub v u t)=true
 | .mk k n i ts,u,h=>by
  rw[inp] at h;rw[sub];cases h5:k==5 with
  | true=>
   have:k=5:=by simpa using h5
   subst this;simp only[AE];cases i==(u:Int) with
   | true=>rfl
   | false=>cases decide ((u:Int)<i) <;> rfl
  | false=>
   simp only[AB];rw[inp];cases h0:k==0 with
   | true=>
    rw[h0] at h;simp only[AE,IM] at h ⊢;rw[h];rfl
   | false=>
    rw[h0] at h;simp only[AB] at h ⊢;cases h3:(k==3||k==4||k==6) with
    | true=>
     rw[h3] at h;exact aH v ts u k 0 h
    | false=>rfl
theorem aH (v:Nat):∀ (l:List Ty) (u:Nat) (k:Int) (j:Nat),TK l=true->TK (KT v u k j l)=true
 | [],_,_,_,_=>rfl
 | t::l,u,k,j,h=>by
  simp only[TK,AG] at h;simp only[KT,TK,AG];exact⟨jN v t _ h.1,aH v l u k (j+1) h.2⟩
end
mutual
theorem Rz {m:Int->Bool} {b:Ty} (hb:pat b=true):∀ (t:Ty) (k:Nat),pat t=true->pat (KU m b t k)=true
 | .mk c n i ts,k,h=>by
  have h':=h;rw[pat] at h;rw[KU];cases h7:c==7 with
  | true=>
   simp only[AE];cases m i&&k==0 with
   | true=>exact hb
   | false=>exact h'
  | false=>
   rw[h7] at h;cases h3:c==3 with
   | false=>exact h'
   | true=>
    have:c=3:=by simpa using h3
    subst this;exact aI hb ts k h
theorem aI {m:Int->Bool} {b:Ty} (hb:pat b=true):∀ (l:List Ty) (k:Nat),Lz l=true->Lz (Jv m b l k)=true
 | [],_,_=>rfl
 | t::l,k,h=>by
  simp only[Lz,AG] at h;rw[Jv];cases decide (k<BF m t) with
  | true=>
   simp only[AE,Lz,AG];exact⟨Rz hb t k h.1,h.2⟩
  | false=>
   simp only[AB,Lz,AG];exact⟨h.1,aI hb l _ h.2⟩
end
mutual
theorem YE {v:Nat}:∀ t:Ty,pat t=true->C6 v true t=false->C6 v false t=decide (0<BF (·==(v:Int)) t)
 | .mk k n i ts,hp,h=>by
  rw[C6] at h;rw[pat] at hp;rw[C6,BF];cases h7:k==7 with
  | true=>
   simp only[AE,Rh,Rm];cases i==(v:Int) <;> rfl
  | false=>
   rw[h7] at h hp;simp only[AB,Ec,E2,HH] at h hp ⊢;cases h2:k==2 with
   | true=>
    have:k=2:=by simpa using h2
    subst this;rw[h2] at h;exact h
   | false=>
    rw[h2] at h hp;simp only[Rh,AB] at h hp;cases h3:k==3 with
    | true=>
     rw[h3] at hp;exact aJ ts hp h
    | false=>
     rw[h3] at hp;simp only[AB,IM] at hp;subst hp;rfl
theorem aJ {v:Nat}:∀ l:List Ty,Lz l=true->GD v true l=false->GD v false l=decide (0<CP (·==(v:Int)) l)
 | [],_,_=>rfl
 | t::l,hp,h=>by
  simp only[Lz,AG] at hp;simp only[GD,FM] at h;rw[GD,YE t hp.1 h.1,aJ l hp.2 h.2,CP];rw[C0];simp only[DJ,BT];omega
end
mutual
theorem YF {v:Nat} {m:Int->Bool} {b:Ty} (hb:C6 v true b=false):∀ (t:Ty) (k:Nat),C6 v true t=false->C6 v true (KU m b t k)=false
 | .mk c n i ts,k,h=>by
  have h':=h;rw[C6] at h;rw[KU];cases h7:c==7 with
  | true=>
   simp only[AE];cases m i&&k==0 with
   | true=>exact hb
   | false=>exact h'
  | false=>
   rw[h7] at h;cases h3:c==3 with
   | false=>exact h'
   | true=>
    have:c=3:=by simpa using h3
    subst this;exact aK hb ts k h
theorem aK {v:Nat} {m:Int->Bool} {b:Ty} (hb:C6 v true b=false):∀ (l:List Ty) (k:Nat),GD v true l=false->GD v true (Jv m b l k)=false
 | [],_,_=>rfl
 | t::l,k,h=>by
  simp only[GD,FM] at h;rw[Jv];cases decide (k<BF m t) with
  | true=>
   simp only[AE,GD,FM];exact⟨YF hb t k h.1,h.2⟩
  | false=>
   simp only[AB,GD,FM];exact⟨h.1,aK hb l _ h.2⟩
end
section
variable {Ai:Nat->Bool}
theorem TM {α:Type} {g:α->List Ty->GF} {P:Ty->Prop}:∀ (l:List α) (out B:List Ty) (r:List Ty),(∀ a∈l,∀ B r,(g a B).1=some r->∀ p∈r,P p)->(CN Ai g l out B).1=some r->(∀ p∈out,P p)->∀ p∈r,P p
 | [],out,B,r,_,h,ho=>by
  rw[CN] at h;cases h;exact ho
 | a::l,out,B,r,hg,h,ho=>by
  have h2:=hg a (by simp) B;rw[CN] at h;rcases hr:g a B with ⟨_|s,B1⟩
  ·rw[hr] at h; cases h
  ·rw[hr] at h h2
   simp only at h h2;cases hb:Ai (out++s).length with
   | true=>rw[hb] at h; cases h
   | false=>
    rw[hb] at h;refine TM l (out++s) B1 r (fun a ha=>hg a (by simp[ha])) h ?_;intro p hp;rcases BL.1 hp with hp|hp
    ·exact ho p hp
    ·exact h2 s rfl p hp
theorem Vy {ex:List Ty->GF} (hr:∀ B r,(ex B).1=some r->∀ c∈r,pat c=true) {v:Nat}:∀ (f:Nat) (t:Ty) (B r:List Ty),pat t=true->(B8 Ai ex v f t B).1=some r->∀ p∈r,pat p=true
 | 0,t,B,r,ht,h=>by
  rw[B8] at h;cases h;simpa using ht
 | f+1,t,B,r,ht,h=>by
  have h2:=hr B;rw[B8] at h;cases ho:C6 v false t with
  | false=>
   rw[ho] at h;cases h;simpa using ht
  | true=>
   rw[ho] at h;simp only[AE] at h;rcases he:ex B with ⟨_|cs,B1⟩
   ·rw[he] at h; cases h
   ·rw[he] at h h2
    simp only at h h2;exact TM cs [] B1 r (fun c hc B' r' h'=>Vy hr f _ B' r' (Rz (h2 cs rfl c hc) t 0 ht) h') h (by simp)
theorem TN {ex:Ty->List Ty->GF} {P:Ty->Prop}:∀ (l out:List Ty) (ok:Bool) (B:List Ty),(∀ t∈l,∀ B r,(ex t B).1=some r->∀ p∈r,P p)->(∀ p∈out,P p)->∀ p∈(FH ex l out ok B).1.1,P p
 | [],_,_,_,_,ho=>ho
 | t::l,out,ok,B,hg,ho=>by
  have h2:=hg t (by simp) B;rw[FH];rcases hr:ex t B with ⟨_|s,B1⟩
  ·exact TN l out false B1 (fun a ha=>hg a (by simp[ha])) ho
  ·rw[hr] at h2
   refine TN l (out++s) ok B1 (fun a ha=>hg a (by simp[ha])) ?_;intro p hp;rcases BL.1 hp with hp|hp
   ·exact ho p hp
   ·exact h2 s rfl p hp
theorem aL {ex:Ty->List Ty->GF} {P:Ty->Prop}:∀ (l:List Ty) (out:List (List Ty)) (B:List Ty) (r:List (List Ty)),(∀ t∈l,∀ B r,(ex t B).1=some r->∀ p∈r,P p)->(Er ex l out B).1=some r->(∀ o∈out,∀ p∈o,P p)->∀ o∈r,∀ p∈o,P p
 | [],out,B,r,_,h,ho=>by
  rw[Er] at h;cases h;exact ho
 | t::l,out,B,r,hg,h,ho=>by
  have h2:=hg t (by simp) B;rw[Er] at h;rcases hr:ex t B with ⟨_|s,B1⟩
  ·rw[hr] at h; cases h
  ·rw[hr] at h h2
   refine aL l (out++[s]) B1 r (fun a ha=>hg a (by simp[ha])) h ?_;intro o hm;rcases BL.1 hm with hm|hm
   ·exact ho o hm
   ·rw[Bj.1 hm]
    exact h2 s rfl
theorem Vz:∀ (ls out r:List (List Ty)),(∀ l∈ls,∀ p∈l,pat p=true)->DG Ai ls out=some r->(∀ p∈out,Lz p=true)->∀ p∈r,Lz p=true
 | [],out,r,_,h,ho=>by
  rw[DG] at h;cases h;exact ho
 | l::ls,out,r,hl,h,ho=>by
  rw[DG] at h;cases hb:Ai (out.flatMap fun p=>l.map fun x=>p++[x]).length with
  | true=>rw[hb] at h; cases h
  | false=>
   rw[hb] at h;refine Vz ls _ r (fun a ha=>hl a (by simp[ha])) h ?_;intro p hp;obtain⟨a,ha,hp⟩:=LB.1 hp;obtain⟨x,hx,rfl⟩:=Bb.1 hp;rw[Q9,ho a ha];simp[Lz,hl l (by simp) x hx]
theorem PK:∀ (f:Nat) (t:Ty) (B r:List Ty),inp t=true->(Aj Ai f t B).1=some r->∀ p∈r,pat p=true
 | 0,_,_,_,_,h=>by cases h
 | f+1,.mk k n i ts,B,r,hi,h=>by
  have ih:=PK f;rw[inp] at hi;rw[Aj] at h;cases cj:k==0||k==2||k==7 with
  | true=>
   rw[cj] at h;cases hb:Ai 1 with
   | true=>rw[hb] at h; cases h
   | false=>
    rw[hb] at h;cases h;intro p hp;rw[Bj.1 hp];have:k=0\/k=2\/k=7:=by simpa[or_assoc] using cj
    rcases this with rfl|rfl|rfl
    ·exact hi
    ·rfl
    ·rfl
  | false=>
   rw[cj] at h;simp only[AB] at h
   have h0:(k==0)=false:=by
    simp only[FM] at cj;exact cj.1.1
   rw[h0] at hi;simp only[AB] at hi;cases Ly:k==4 with
   | true=>
    rw[Ly] at h hi;simp only[AE,EN,D0] at h hi;have key:=TN (P:=fun p=>pat p=true) ts [] true B (fun t hm B' r' h'=>ih t B' r' (TL hi hm) h') (by simp);rcases hs:FH (Aj Ai f) ts [] true B with ⟨⟨o,ok⟩,B1⟩
    rw[hs] at h key;simp only at h key;cases hb:ok&&!Ai o.length with
    | false=>rw[hb] at h; cases h
    | true=>rw[hb] at h; cases h; exact key
   | false=>
    rw[Ly] at h hi;simp only[AB,Bool.or_false] at h hi;cases LS:k==3 with
    | true=>
     rw[LS] at h hi;simp only[AE,D0] at h hi;have key:=fun r=>aL (P:=fun p=>pat p=true) ts [] B r (fun t hm B' r' h'=>ih t B' r' (TL hi hm) h')
     rcases hs:Er (Aj Ai f) ts [] B with ⟨_|ls,B1⟩
     ·rw[hs] at h; cases h
     ·rw[hs] at h key
      simp only at h key;cases he:ls.any List.isEmpty with
      | true=>rw[he] at h; cases h; simp
      | false=>
       rw[he] at h;simp only[AB] at h;cases hc:DG Ai ls [[]] with
       | none=>rw[hc] at h; cases h
       | some all=>
        rw[hc] at h;simp only at h;cases hb:Ai all.length with
        | true=>rw[hb] at h; cases h
        | false=>
         rw[hb] at h;cases h;intro p hp;obtain⟨a,ha,rfl⟩:=Bb.1 hp;exact Vz ls _ all (key ls rfl (by simp)) hc (by simp[Lz]) a ha
    | false=>
     rw[LS] at h hi;simp only[AB,HH] at h hi;cases Ux:k==6 with
     | false=>
      rw[Ux] at h;simp only[AB] at h;cases hb:Ai 0 with
      | true=>rw[hb] at h; cases h
      | false=>rw[hb] at h; cases h; simp
     | true=>
      rw[Ux] at h hi;simp only[AE] at h hi
      match ts,hi with
      | [],_=>cases h; simp
      | [_],_=>cases h; simp
      | _::_::_::_,_=>cases h; simp
      | [b,body],hi=>
       simp only[TK,AG] at hi;simp only[Zn] at h;have hl:=ih (sub B.length 0 body) (B++[b]);rcases hs:Aj Ai f (sub B.length 0 body) (B++[b]) with ⟨_|l,B1⟩
       ·rw[hs] at h; cases h
       ·rw[hs] at h hl
        simp only at h hl;have hl':=hl l (jN _ _ 0 hi.2.1) rfl;have key:=fun r h1=>TM (Ai:=Ai) (g:=BX Ai (Aj Ai f b) B.length) (P:=fun p=>pat p=true) l [] B1 r h1
        rcases hc:CN Ai (BX Ai (Aj Ai f b) B.length) l [] B1 with ⟨_|o,B2⟩
        ·rw[hc] at h; cases h
        ·rw[hc] at h key
         simp only at h key;cases hb:Ai o.length with
         | true=>rw[hb] at h; cases h
         | false=>
          rw[hb] at h;cases h;refine key r ?_ rfl (by simp);intro a ha B' r' h';rw[BX] at h';cases ho:C6 B.length true a with
          | true=>
           rw[ho] at h';cases h';simpa using hl' a ha
          | false=>
           rw[ho] at h';exact Vy (fun B r h=>ih b B r hi.1 h) _ a B' r' (hl' a ha) h'
end
def Ba (v:Ty) (x:AV):Prop:=match v with
 | .mk k n i ts=>∃ a,x=.agg [AD k,SS n,AD i,a]/\BO a (AQ ts)
theorem Bp.jO {v:Ty} {x:AV} (h:Bp v x):Ba v x:=by
 obtain⟨k,n,i,ts⟩:=v;obtain⟨a,rfl,ha⟩:=h;exact⟨a,rfl,.inl ha⟩
theorem Ba.closed {v:Ty} {x:AV} (h:Ba v x) (bs:List (List AV)) (n:Nat):∃ x',close bs n 0 x=some x'/\Bp v x':=by
 obtain⟨k,c,i,ts⟩:=v;obtain⟨a,rfl,ha⟩:=h;obtain⟨a',h1,h2⟩:=ha.closed bs n;exact⟨.agg [AD k,SS c,AD i,a'],by simp[h1],⟨a',rfl,h2⟩⟩
abbrev Z4:List AV:=[AD 0,SS [],AD 0,.AA []]
theorem FY (l m:List Ty):AQ (l++m)=AQ l++AQ m:=by simp[Ie]
theorem HB {l:List Ty} {r:List PV} (h:r∈AQ l):r.length=4:=by
 rw[Ie] at h;obtain⟨v,_,rfl⟩:=Bb.1 h;exact Am v
theorem Iu {t:Ty} {x:AV} (h:Ba t x) {s:AK} {K:AV->AK->Prop} (hK:K (.AA [Ah t]) s):D4 false s 4 [(AD 0),(SS []),(AD 0),(.AA [])] 1 [(0,4,x)] K:=by
 obtain⟨k,n,i,ts⟩:=t;obtain⟨a,rfl,ha⟩:=h;simp only[Ah] at hK;simp[D4,Fh,B6,ha.ok,ha.I3];exact hK
theorem AEi {L:A0} {s:AK} {a:AV} {es:List Ty} {t:Ty} {K:AV->AK->Prop} (ha:Ex 0 s.ts 25 a (AQ es)) (Fz:L.rt=0) (hl:es.length<2 ^ 38) (h:∀ a' ts',Ex 0 ts' 25 a' (AQ (es++[t]))->K a' ⟨s.bs,ts'⟩) :
  E1 false L s 25 4 56 a (.AA [Ah t]) K:=by
 have hl':(AQ es).length=es.length:=Ad es
 have:=Ma (L:=L) (bs:=s.bs) (ts:=[]) (x:=s.ts) (e:=25) (k:=4) (bytes:=56) (a:=a) (rows:=AQ es) (row:=Ah t) (K:=K) (by simpa using ha) (by omega) (fun r hr=>HB hr) (Am t) (by omega) (DZ t) (by omega) (by omega) (by
  intro a' x' Hs;have:=h a' x' (by simpa[FY,AQ] using Hs);simpa using this)
 simpa using this
theorem Fl {L:A0} {s:AK} {id off:Nat} {v:AV} {cs:List AV} {K:AK->Prop} (hb:s.bs[id]?=some cs) (ho:off<cs.length) (hc:cellsOf v=[v]) (hro:L.ro<=id) (hok:Ar v=true) (hn:L.n0<=id\/HK v=true) (h:K ⟨s.bs.set id (cs.set off v),s.ts⟩):C2 L s 1 (.ptr id off) v K:=by
 simp only[C2,hb,wO,hc];refine⟨⟨rfl,by simp; omega,hro,by simp[hok],hn.imp (fun h=>h) fun h=>by simp[HL,h],by omega⟩,?_⟩;simpa[setCells] using h
theorem Kw {lo:Nat} {ts:List (Nat×Nat)} {k:Nat} {a:AV} {es:List Ty} (h:Ex lo ts k a (AQ es)):Tel.Cu a a=true:=by
 rcases h with rfl|⟨t,rfl,_⟩
 ·simp[Tel.Cu,Ep]
 ·simp[Tel.Cu,Ep]
theorem HR (a b:Nat):Tel.Cu (.ptr a b) (.ptr a b)=true:=by simp[Tel.Cu]
theorem A6 {bs:List (List AV)} {j:Nat} {c:List AV} (h:bs[j]?=some c) (b:List AV):(bs++[b])[j]?=some c:=by
 rw[BA (Ae.1 h).1];exact h
theorem Ay (bs:List (List AV)) (b:List AV):(bs++[b])[bs.length]?=some b:=by simp
theorem Cs {bs:List (List AV)} {j k:Nat} {c b:List AV} (h:bs[j]?=some c) (hn:k≠j):(bs.set k b)[j]?=some c:=by
 rw[Cd hn];exact h
theorem DH {bs:List (List AV)} {j:Nat} {c b:List AV} (h:bs[j]?=some c):(bs.set j b)[j]?=some b:=by
 have:=(Ae.1 h).1;simp[this]
section
variable {R:RT}
theorem EU {s:AK} {t:Ty} {K:AV->Prop} (hK:K (.agg ((Ah t).map .pv))):FA (env R) s (some 4) (.DK (Ah t) 0) K:=by
 simp only[FA,DN,Fv,xL,xM,xF,xG];refine⟨by rw[AZ,Am]; omega,?_⟩;rw[CL (by rw[AZ,Am]; omega)];exact hK
theorem e9 {ts:List Ty} {a:AV} (ha:BP a (AQ ts)) (hl:Ac ts<2 ^ 38) {k i:Int} {n:List UInt8} (ih:∀ t∈ts,AW (env R) 146 [.agg ((Ah t).map .pv)] fun r=>Bp t r) {Post:AV->Prop} (hP:∀ r,Bp (.mk k n i ts) r->Post r) :
  ∀ (j q:Nat) (s:AK) (b:AV),q+j=ts.length->s.bs[1]?=some Z4->s.bs[2]?=some [AD k,SS n,AD i,b]->Ex 0 s.ts 25 b (AQ (ts.take q))->YG R 0 0 0 (.ptr 1 0) (.ptr 2 0) a (AD ts.length) (AD q) s (QP Post):=by
 have l5:=Cq ts;intro j
 induction j with
 | zero=>
  intro q s b hi h1 h2 hb;refine qg (BE ?_);rw[A9 (by omega)];refine BQ (AEj (Az h2 rfl (Ck h1 rfl rfl (by decide) (AM _) (by simp[hb.BG.ok]) (.inl (AM _)) (Az (DH h1) rfl ?_))));rw[CL (by omega)] at hb;obtain⟨r,h3,h4⟩:=Ba.closed (v:=.mk k n i ts) ⟨b,rfl,hb.BG⟩ (s.bs.set 1 [AD k,SS n,AD i,b]) 0;exact⟨r,h3,hP r h4⟩
 | succ j Gs=>
  intro q s b hi h1 h2 hb;refine qg (BE ?_);rw[Au (by omega)];obtain⟨t,ht⟩:∃ t,ts[q]?=some t:=⟨_,Ak (by omega)⟩;refine BZ (AEk (CS ha (row:=Ah t) (by omega) (by simpa using CA ht) (Am t) (by omega) (EU ?_)));have hm:=ih t (BK ht);have hro:((Ah t).map AV.pv).all Ar=true:=DZ t;have hrl:((Ah t).map AV.pv).length=4:=by rw[AZ,Am]
  generalize (Ah t).map AV.pv=row at hm hro hrl;obtain⟨bs,tk⟩:=s;simp only[CX] at *;have l1:=(Ae.1 h1).1;have l2:=(Ae.1 h2).1;refine Ck (Ay bs Z4) hrl rfl (by decide) (AM _) hro (.inl (AM _)) ?_;have e:(bs++[Z4]).set bs.length row=bs++[row]:=by simp
  rw[e];have g1:=A6 h1 row;have g2:=A6 h2 row;refine Aq (A7 g2) (Ax g2 rfl (Az (Ay bs row) hrl (AI hm ?_)));intro v hv;refine Iu hv.jO ⟨by decide,AEi hb rfl (by rw[DU]; omega) ?_⟩;intro b' Lg hb'
  have hqt:ts.take q++[t]=ts.take (q+1):=by
   rw[Gr,ht];rfl
  rw[hqt] at hb';refine Aq (A7 g2) (Fl g2 (by simp) hb'.BG.cells (AM _) hb'.BG.ok (.inl (AM _)) ?_);refine⟨Aq (A7 g2) (HR _ _),Ax g2 rfl (Kw hb),AEl (Cr (by omega) (by omega) ?_)⟩;have:=Gs (q+1) ⟨(bs++[row]).set 2 [AD k,SS n,AD i,b'],Lg⟩ b' (by omega) (Cs g1 (by decide)) (DH g2) hb';simpa using this
mutual
theorem TP:∀ (t:Ty),size t<2 ^ 38->∀ (x:AV),Bp t x->AW (env R) 146 [x] fun r=>Bp t r
 | .mk k n i ts,h,x,hx=>by
  obtain⟨a,rfl,ha⟩:=hx;simp only[size] at h;have ih:=RA ts (by omega);refine AOg (u0:=.agg [AD k,SS n,AD i,a]) (by simp[ha.close]) (AEm ?_);refine DY rfl (by simp[ha.ok]) (Cj (Az rfl rfl (Cj (Ck (old:=Z4) rfl rfl rfl (by decide) (AM _) (by simp[ha.ok]) (.inl (AM _)) ?_))));refine Aq rfl (Fl (off:=3) rfl (AL 4) rfl (AM _) rfl (.inl (AM _)) (Aq rfl (Ax rfl rfl (BS (n:=ts.length) (by rw[ha.Bk,Ad]) ?_))));exact e9 ha (by omega) ih (fun r hr=>hr) ts.length 0 _ (.AA []) (by omega) rfl rfl (.inl rfl)
theorem RA:∀ (l:List Ty),Ac l<2 ^ 38->∀ t∈l,AW (env R) 146 [.agg ((Ah t).map .pv)] fun r=>Bp t r
 | [],_,_,h=>by cases h
 | e::l,h,t,hm=>by
  simp only[Ac] at h;rcases Av.1 hm with h' | h'
  ·rw[h']
   exact TP e (by omega) _ (Bp.Ci e)
  ·exact RA l (by omega) t h'
end
end
end Go.Proofs.YtpgfpakdnijngaaGreatDoor
