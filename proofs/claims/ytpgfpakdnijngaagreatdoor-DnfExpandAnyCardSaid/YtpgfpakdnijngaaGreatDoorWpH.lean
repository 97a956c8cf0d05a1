/-
  A loop over an iterator's values: what a round needs, and the whole loop.
-/
import Derived.Test.YtpgfpakdnijngaaGreatDoorWvF
set_option linter.all false
namespace Go.Tel
theorem Ck.both {E:Env} {L:A3} {a b:Code} {st Fh rq st3:St} {o o':Out} (h1:Ck E L a st o Fh) (h2:Ck E L b rq o' st3) :
  ∃n,∀m k,n<=m->n<=k->Jd E (Dl E m) k L a st=some (o,Fh)/\Jd E (Dl E m) k L b rq=some (o',st3):=by
 obtain⟨n1,h1⟩:=h1;obtain⟨n2,h2⟩:=h2;exact⟨max n1 n2,λm k hm hk=>⟨h1 m k (by omega) (by omega),h2 m k (by omega) (by omega)⟩⟩
theorem Vs {E:Env} {L:A3} {s:AL} {lk:Lk} {o:Oper} {K:AV->AL->Prop} {x y:Operand} {m n:Int} {t:Array TypeId} (ho:o.op=.call { callee:=.builtin .max,args:=#[x,y],argTypes:=t })
  (hx:G7 lk x=some (AB m)) (hy:G7 lk y=some (AB n)) (h:K (AB (max m n)) s):Tj E L s lk o K:=by
 refine⟨AB (max m n),s,λρ hA=>?_,h⟩;have ex:=Bw hA hx;have ey:=Bw hA hy;unfold CS;rw[ho]
 have h1:Ej ρ o.op.operands.toList=true:=by
  have e:o.op.operands.toList=[x,y]:=by rw[ho]; rfl
  grind[Ej,GN]
 have h2:Cy E ρ o=some (AB (max m n)):=by
  simp only[Cy,h1,F2];unfold execOp;rw[ho];simp[resolve,invoke,builtin,Builtin.max_,Builtin.max2,ex,ey,GN];have e:max m n=if m<n then n else m:=by omega
  rw[e];rfl
 grind
theorem Fw {k:Nat}:∀(m:List (List PV)),(∀r∈m,r.length=k)->CR k m.length m.flatten=m
 | [],_=>rfl
 | r::m,h=>by
  have hr:=h r (by simp);have e1:(r++m.flatten).take k=r:=by grind
  have e2:(r++m.flatten).drop k=m.flatten:=by grind
  simp[CR,e1,e2,Fw m (λx hx=>h x (by grind))]
theorem ML {k:Nat}:∀(m:List (List PV)),(∀r∈m,r.length=k)->m.flatten.length=m.length*k
 | [],_=>by simp
 | r::m,h=>by
  simp only[MX,CD,CT,h r (by simp),ML m (λx hx=>h x (by grind)),K6];omega
theorem P4 {L:A3} {bs:List (List AV)} {ts x:List (Nat×TypeId)} {e:TypeId} {k bytes:Nat} {a y:AV} {rows m:List (List PV)} {K:AV->AL->Prop} (ha:Dr ts.length (ts++x) e a rows) (Eb:L.rt<=ts.length) (hrows:∀r∈rows,r.length=k) (hm:∀r∈m,r.length=k) (hk:0<k)
  (hy:C0 ⟨bs,ts++x⟩ k y=some (m.flatten.map .pv)) (hok:(m.flatten.map AV.pv).all BE=true) (hb:(rows.length+m.length)*bytes<=2 ^ 45) (Ll:rows.length+m.length<=2 ^ 45)
  (h:∀a' x',Dr ts.length (ts++x') e a' (rows++m)->K a' ⟨bs,ts++x'⟩):Cx false L ⟨bs,ts++x⟩ e k bytes a y K:=by
 have hall:(rows.all λr=>r.length==k)=true:=by grind
 unfold Cx;rw[hy];have hfl:=ML m hm;have hby:=Fw m hm;cases hc:m.flatten with
 | nil=>
  have hm0:m=[]:=by
   cases m with
   | nil=>rfl
   | cons r m=>
    grind
  subst hm0;have:=h a x (by grind);rcases ha with rfl|⟨t,rfl,h1,h2⟩ <;> assumption
 | cons c cs=>
  have hmap:m.flatten.map AV.pv=.pv c::cs.map .pv:=by grind
  have hl:(AV.pv c::cs.map .pv).length / k=m.length:=by
   rw[<-hmap,CC,hfl,Nat.mul_div_cancel _ hk]
  have htp:Co (AV.pv c::cs.map .pv)=some m.flatten:=by grind[Kr]
  rw[hmap] at hok;simp only[wO,CE,hok,hl,htp,hby];refine⟨Ab,?_⟩;rcases ha with rfl|⟨t,rfl,h1,h2⟩
  .refine⟨⟨hb,Ll,hall⟩,?_⟩
   have:=h (.own (ts++x).length (rows++m)) (x++[(rows.length+m.length,e)]) (.inr ⟨_,rfl,by simp,by simp⟩)
   grind
  .refine⟨⟨hb,Ll,h1,by omega,hall⟩,?_⟩
   have hlt:t<(ts++x).length:=(BL.1 h1).1;have es:(ts++x).set t (rows.length+m.length,e)=ts++x.set (t-ts.length) (rows.length+m.length,e):=Xc _ _ h2;have:=h (.own t (rows++m)) (x.set (t-ts.length) (rows.length+m.length,e)) (.inr ⟨_,rfl,by grind,h2⟩)
   grind
theorem De {s:AL} {k:Nat} {y:AV} {m:List (List PV)} (hy:BJ y m) (hm:∀r∈m,r.length=k):C0 s k y=some (m.flatten.map .pv):=by
 have hall:(m.all λr=>r.length==k)=true:=by grind
 rcases hy with (rfl|rfl)|⟨t,rfl⟩ <;> grind[C0,rowsOf]
theorem DV {l:List Int}:∀r∈AW l,r.length=1:=by
 intro r hr;obtain⟨n,_,rfl⟩:=C3.1 hr;rfl
theorem Ni {l:List Int}:((AW l).flatten.map AV.pv).all BE=true:=by grind[AW,BE]
end Go.Tel
