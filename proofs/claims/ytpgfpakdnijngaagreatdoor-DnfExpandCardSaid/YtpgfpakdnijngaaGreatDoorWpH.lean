/-
  A loop over an iterator's values: what a round needs, and the whole loop.
-/
import Derived.Test.YtpgfpakdnijngaaGreatDoorWvF
set_option linter.all false
namespace Go.Tel
theorem VS {E:Env} {L:A8} {s:AM} {lk:Lk} {o:Oper} {K:AV->AM->Prop} {x y:Operand} {m n:Int} {t:Array TypeId} (ho:o.op=.call { callee:=.builtin .max,args:=#[x,y],argTypes:=t })
  (hx:IU lk x=some (AA m)) (hy:IU lk y=some (AA n)) (h:K (AA (max m n)) s):TF E L s lk o K:=by
 refine⟨AA (max m n),s,λρ hA=>?_,h⟩;have ex:=CR hA hx;have ey:=CR hA hy;unfold Cc;rw[ho]
 have h1:Eh ρ o.op.operands.toList=true:=by
  have e:o.op.operands.toList=[x,y]:=by rw[ho]; rfl
  grind[Eh,HJ]
 have h2:Cw E ρ o=some (AA (max m n)):=by
  simp only[Cw,h1,GZ];unfold execOp;rw[ho];simp[resolve,invoke,builtin,Builtin.max_,Builtin.max2,ex,ey,HJ];have e:max m n=if m<n then n else m:=by omega
  rw[e];rfl
 grind
theorem Fq {k:Nat}:∀(m:List (List PV)),(∀r∈m,r.length=k)->CB k m.length m.flatten=m
 | [],_=>rfl
 | r::m,h=>by
  have hr:=h r (by simp);have e1:(r++m.flatten).take k=r:=by grind
  have e2:(r++m.flatten).drop k=m.flatten:=by grind
  simp[CB,e1,e2,Fq m (λx hx=>h x (by grind))]
theorem L7 {k:Nat}:∀(m:List (List PV)),(∀r∈m,r.length=k)->m.flatten.length=m.length*k
 | [],_=>by simp
 | r::m,h=>by
  simp only[MK,Bo,CO,h r (by simp),L7 m (λx hx=>h x (by grind)),Ku];omega
theorem Pa {L:A8} {bs:List (List AV)} {ts x:List (Nat×TypeId)} {e:TypeId} {k bytes:Nat} {a y:AV} {rows m:List (List PV)} {K:AV->AM->Prop} (ha:Dg ts.length (ts++x) e a rows) (EU:L.rt<=ts.length) (hrows:∀r∈rows,r.length=k) (hm:∀r∈m,r.length=k) (hk:0<k)
  (hy:Cx ⟨bs,ts++x⟩ k y=some (m.flatten.map .pv)) (hok:(m.flatten.map AV.pv).all A9=true) (hb:(rows.length+m.length)*bytes<=2 ^ 45) (Lf:rows.length+m.length<=2 ^ 45)
  (h:∀a' x',Dg ts.length (ts++x') e a' (rows++m)->K a' ⟨bs,ts++x'⟩):Ct false L ⟨bs,ts++x⟩ e k bytes a y K:=by
 have hall:(rows.all λr=>r.length==k)=true:=by grind
 unfold Ct;rw[hy];have hfl:=L7 m hm;have hby:=Fq m hm;cases hc:m.flatten with
 | nil=>
  have hm0:m=[]:=by
   cases m with
   | nil=>rfl
   | cons r m=>
    grind
  subst hm0;have:=h a x (by grind);rcases ha with rfl|⟨t,rfl,h1,h2⟩ <;> assumption
 | cons c cs=>
  have hmap:m.flatten.map AV.pv=.pv c::cs.map .pv:=by grind
  have hl:(AV.pv c::cs.map .pv).length / k=m.length:=by
   rw[<-hmap,Bx,hfl,Nat.mul_div_cancel _ hk]
  have htp:Cm (AV.pv c::cs.map .pv)=some m.flatten:=by grind[Kf]
  rw[hmap] at hok;simp only[wO,CH,hok,hl,htp,hby];refine⟨Ae,?_⟩;rcases ha with rfl|⟨t,rfl,h1,h2⟩
  .refine⟨⟨hb,Lf,hall⟩,?_⟩
   have:=h (.own (ts++x).length (rows++m)) (x++[(rows.length+m.length,e)]) (.inr ⟨_,rfl,by simp,by simp⟩)
   grind
  .refine⟨⟨hb,Lf,h1,by omega,hall⟩,?_⟩
   have hlt:t<(ts++x).length:=(BL.1 h1).1;have es:(ts++x).set t (rows.length+m.length,e)=ts++x.set (t-ts.length) (rows.length+m.length,e):=XD _ _ h2;have:=h (.own t (rows++m)) (x.set (t-ts.length) (rows.length+m.length,e)) (.inr ⟨_,rfl,by grind,h2⟩)
   grind
theorem Db {s:AM} {k:Nat} {y:AV} {m:List (List PV)} (hy:BF y m) (hm:∀r∈m,r.length=k):Cx s k y=some (m.flatten.map .pv):=by
 have hall:(m.all λr=>r.length==k)=true:=by grind
 rcases hy with (rfl|rfl)|⟨t,rfl⟩ <;> grind[Cx,rowsOf]
theorem DR {l:List Int}:∀r∈AX l,r.length=1:=by
 intro r hr;obtain⟨n,_,rfl⟩:=C0.1 hr;rfl
theorem NM {l:List Int}:((AX l).flatten.map AV.pv).all A9=true:=by grind[AX,A9]
end Go.Tel
