/-
  A loop over an iterator's values: what a round needs, and the whole loop.
-/
import Derived.Test.YtpgfpakdnijngaaGreatDoorWvF
set_option linter.all false
namespace Go.Tel
theorem Xb {E:Env} {L:BI} {s:AQ} {lk:Lk} {o:Oper} {K:AV->AQ->Prop} {x y:Operand} {m n:Int} {t:Array TypeId} (ho:o.op=.call { callee:=.builtin .max,args:=#[x,y],argTypes:=t })
  (hx:I8 lk x=some (AG m)) (hy:I8 lk y=some (AG n)) (h:K (AG (max m n)) s):mZ E L s lk o K:=by
 refine⟨AG (max m n),s,λU hA=>?_,h⟩;have ex:=CW hA hx;have ey:=CW hA hy;unfold Cl;rw[ho]
 have h1:E2 U o.op.operands.toList=true:=by
  have e:o.op.operands.toList=[x,y]:=by rw[ho]; rfl
  grind[E2,Ht]
 have h2:C5 E U o=some (AG (max m n)):=by
  simp only[C5,h1,Gu];unfold execOp;rw[ho];simp[resolve,invoke,builtin,Builtin.max_,Builtin.max2,ex,ey,Ht];have e:max m n=if m<n then n else m:=AA
  rw[e];rfl
 grind
theorem FE {k:Nat}:∀(m:List (List PV)),(∀r∈m,r.length=k)->CJ k m.length m.flatten=m
 | [],_=>rfl
 | r::m,h=>by
  have hr:=h r AD;have e1:(r++m.flatten).take k=r:=AB;have e2:(r++m.flatten).drop k=m.flatten:=AB;simp[CJ,e1,e2,FE m (λx hx=>h x AB)]
theorem Kl {k:Nat}:∀(m:List (List PV)),(∀r∈m,r.length=k)->m.flatten.length=m.length*k
 | [],_=>by simp
 | r::m,h=>by
  simp only[NV,Bo,B4,h r AD,Kl m (λx hx=>h x AB),KV];omega
theorem Q7 {L:BI} {bs:List (List AV)} {ts x:List (Nat×TypeId)} {e:TypeId} {k bytes:Nat} {a y:AV} {rows m:List (List PV)} {K:AV->AQ->Prop} (ha:Dn ts.length (ts++x) e a rows) (El:L.rt<=ts.length) (hrows:∀r∈rows,r.length=k) (hm:∀r∈m,r.length=k) (hk:0<k)
  (hy:Cz ⟨bs,ts++x⟩ k y=some (m.flatten.map .pv)) (hok:(m.flatten.map AV.pv).all A7=true) (hb:(rows.length+m.length)*bytes<=2 ^ 45) (Mk:rows.length+m.length<=2 ^ 45)
  (h:∀a' x',Dn ts.length (ts++x') e a' (rows++m)->K a' ⟨bs,ts++x'⟩):HB false L ⟨bs,ts++x⟩ e k bytes a y K:=by
 have hall:(rows.all λr=>r.length==k)=true:=AB;unfold HB;rw[hy];have hfl:=Kl m hm;have hby:=FE m hm;cases hc:m.flatten with
 | nil=>
  have hm0:m=[]:=by
   cases m with
   | nil=>rfl
   | cons r m=>
    grind
  subst hm0;have:=h a x AB;rcases ha with rfl|⟨t,rfl,h1,h2⟩ <;> assumption
 | cons c cs=>
  have hmap:m.flatten.map AV.pv=.pv c::cs.map .pv:=AB
  have hl:(AV.pv c::cs.map .pv).length / k=m.length:=by
   rw[<-hmap,Bt,hfl,ZE _ hk]
  have htp:CD (AV.pv c::cs.map .pv)=some m.flatten:=by grind[IP]
  rw[hmap] at hok;simp only[wO,CP,hok,hl,htp,hby];refine⟨Ai,?_⟩;rcases ha with rfl|⟨t,rfl,h1,h2⟩
  .refine⟨⟨hb,Mk,hall⟩,?_⟩
   have:=h (.own (ts++x).length (rows++m)) (x++[(rows.length+m.length,e)]) (.inr ⟨_,rfl,AD,AD⟩)
   grind
  .refine⟨⟨hb,Mk,h1,AA,hall⟩,?_⟩
   have hlt:t<(ts++x).length:=(BA.1 h1).1;have es:(ts++x).set t (rows.length+m.length,e)=ts++x.set (t-ts.length) (rows.length+m.length,e):=ZF _ _ h2;have:=h (.own t (rows++m)) (x.set (t-ts.length) (rows.length+m.length,e)) (.inr ⟨_,rfl,AB,h2⟩)
   grind
theorem C9 {s:AQ} {k:Nat} {y:AV} {m:List (List PV)} (hy:BF y m) (hm:∀r∈m,r.length=k):Cz s k y=some (m.flatten.map .pv):=by
 have hall:(m.all λr=>r.length==k)=true:=AB;rcases hy with (rfl|rfl)|⟨t,rfl⟩ <;> grind[Cz,rowsOf]
theorem Da {l:List Int}:∀r∈Ad l,r.length=1:=by
 intro r hr;obtain⟨n,_,rfl⟩:=Cv.1 hr;rfl
theorem Oc {l:List Int}:((Ad l).flatten.map AV.pv).all A7=true:=by grind[Ad,A7]
end Go.Tel
