/-
  A loop over an iterator's values: what a round needs, and the whole loop.
-/
import Derived.Test.YtpgfpakdnijngaaGreatDoorWvF
set_option linter.all false
namespace Go.Tel
theorem Ww {E:Env} {L:BL} {s:AQ} {lk:Lk} {o:Oper} {K:AV->AQ->Prop} {x y:Operand} {m n:Int} {t:Array TypeId} (ho:o.op=.call { callee:=.builtin .max,args:=#[x,y],argTypes:=t })
  (hx:Iz lk x=some (AG m)) (hy:Iz lk y=some (AG n)) (h:K (AG (max m n)) s):lU E L s lk o K:=by
 refine⟨AG (max m n),s,λU hA=>?_,h⟩;have ex:=CV hA hx;have ey:=CV hA hy;unfold Ci;rw[ho]
 have h1:Ev U o.op.operands.toList=true:=by
  have e:o.op.operands.toList=[x,y]:=by rw[ho]; rfl
  grind[Ev,Hl]
 have h2:C4 E U o=some (AG (max m n)):=by
  simp only[C4,h1,Gs];unfold execOp;rw[ho];simp[resolve,invoke,builtin,Builtin.max_,Builtin.max2,ex,ey,Hl];have e:max m n=if m<n then n else m:=AA
  rw[e];rfl
 grind
theorem F9 {k:Nat}:∀(m:List (List PV)),(∀r∈m,r.length=k)->CI k m.length m.flatten=m
 | [],_=>rfl
 | r::m,h=>by
  have hr:=h r AD;have e1:(r++m.flatten).take k=r:=AB;have e2:(r++m.flatten).drop k=m.flatten:=AB;simp[CI,e1,e2,F9 m (λx hx=>h x AB)]
theorem M8 {k:Nat}:∀(m:List (List PV)),(∀r∈m,r.length=k)->m.flatten.length=m.length*k
 | [],_=>by simp
 | r::m,h=>by
  simp only[NM,Bd,Bt,h r AD,M8 m (λx hx=>h x AB),KI];omega
theorem Qs {L:BL} {bs:List (List AV)} {ts x:List (Nat×TypeId)} {e:TypeId} {k bytes:Nat} {a y:AV} {rows m:List (List PV)} {K:AV->AQ->Prop} (ha:Dl ts.length (ts++x) e a rows) (Ee:L.rt<=ts.length) (hrows:∀r∈rows,r.length=k) (hm:∀r∈m,r.length=k) (hk:0<k)
  (hy:C6 ⟨bs,ts++x⟩ k y=some (m.flatten.map .pv)) (hok:(m.flatten.map AV.pv).all BD=true) (hb:(rows.length+m.length)*bytes<=2 ^ 45) (MU:rows.length+m.length<=2 ^ 45)
  (h:∀a' x',Dl ts.length (ts++x') e a' (rows++m)->K a' ⟨bs,ts++x'⟩):Ik false L ⟨bs,ts++x⟩ e k bytes a y K:=by
 have hall:(rows.all λr=>r.length==k)=true:=AB;unfold Ik;rw[hy];have hfl:=M8 m hm;have hby:=F9 m hm;cases hc:m.flatten with
 | nil=>
  have hm0:m=[]:=by
   cases m with
   | nil=>rfl
   | cons r m=>
    grind
  subst hm0;have:=h a x AB;rcases ha with rfl|⟨t,rfl,h1,h2⟩ <;> assumption
 | cons c cs=>
  have hmap:m.flatten.map AV.pv=.pv c::cs.map .pv:=AB
  have hl:(AV.pv c::cs.map .pv).length / k=m.length:=by
   rw[<-hmap,Bm,hfl,Nat.mul_div_cancel _ hk]
  have htp:Cp (AV.pv c::cs.map .pv)=some m.flatten:=by grind[LN]
  rw[hmap] at hok;simp only[wO,CO,hok,hl,htp,hby];refine⟨Ap,?_⟩;rcases ha with rfl|⟨t,rfl,h1,h2⟩
  .refine⟨⟨hb,MU,hall⟩,?_⟩
   have:=h (.own (ts++x).length (rows++m)) (x++[(rows.length+m.length,e)]) (.inr ⟨_,rfl,AD,AD⟩)
   grind
  .refine⟨⟨hb,MU,h1,AA,hall⟩,?_⟩
   have hlt:t<(ts++x).length:=(BH.1 h1).1;have es:(ts++x).set t (rows.length+m.length,e)=ts++x.set (t-ts.length) (rows.length+m.length,e):=YV _ _ h2;have:=h (.own t (rows++m)) (x.set (t-ts.length) (rows.length+m.length,e)) (.inr ⟨_,rfl,AB,h2⟩)
   grind
theorem Dh {s:AQ} {k:Nat} {y:AV} {m:List (List PV)} (hy:BE y m) (hm:∀r∈m,r.length=k):C6 s k y=some (m.flatten.map .pv):=by
 have hall:(m.all λr=>r.length==k)=true:=AB;rcases hy with (rfl|rfl)|⟨t,rfl⟩ <;> grind[C6,rowsOf]
theorem DW {l:List Int}:∀r∈Ab l,r.length=1:=by
 intro r hr;obtain⟨n,_,rfl⟩:=CR.1 hr;rfl
theorem OQ {l:List Int}:((Ab l).flatten.map AV.pv).all BD=true:=by grind[Ab,BD]
end Go.Tel
