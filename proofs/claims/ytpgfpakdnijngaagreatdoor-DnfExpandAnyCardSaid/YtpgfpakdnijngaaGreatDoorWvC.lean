/-
  What a piece of code needs is enough; calls.
-/
import Derived.Test.YtpgfpakdnijngaaGreatDoorWvB
import Derived.Test.YtpgfpakdnijngaaGreatDoorEvI
set_option linter.all false
namespace Go.Tel
theorem Ck.seq {E:Env} {L:A3} {a b:Code} {st Fh rq:St} {o:Out} (h1:Ck E L a st .norm Fh) (h2:Ck E L b Fh o rq):Ck E L (.seq a b) st o rq:=by
 obtain⟨n1,h1⟩:=h1;obtain⟨n2,h2⟩:=h2;refine⟨n1+n2+1,λm k hm hk=>?_⟩;obtain⟨k,rfl⟩:∃k',k=k'+1:=⟨k-1,by omega⟩
 grind[Jd]
theorem Ck.AT7 {E:Env} {L:A3} {a b:Code} {st Fh:St} {o:Out} (h1:Ck E L a st o Fh) (ho:o≠.norm):Ck E L (.seq a b) st o Fh:=by
 obtain⟨n1,h1⟩:=h1;refine⟨n1+1,λm k hm hk=>?_⟩;obtain⟨k,rfl⟩:∃k',k=k'+1:=⟨k-1,by omega⟩
 grind[Jd]
theorem Ck.loop {E:Env} {L:A3} {b:Code} {st Fh rq:St} {o:Out} (h1:Ck E L b st .norm Fh) (h2:Ck E L (.loop b) Fh o rq):Ck E L (.loop b) st o rq:=by
 obtain⟨n1,h1⟩:=h1;obtain⟨n2,h2⟩:=h2;refine⟨n1+n2+1,λm k hm hk=>?_⟩;obtain⟨k,rfl⟩:∃k',k=k'+1:=⟨k-1,by omega⟩
 grind[Jd]
theorem Ck.AIc {E:Env} {L:A3} {b:Code} {st Fh:St} {o:Out} (h1:Ck E L b st o Fh) (ho:o≠.norm):Ck E L (.loop b) st o Fh:=by
 obtain⟨n1,h1⟩:=h1;refine⟨n1+1,λm k hm hk=>?_⟩;obtain⟨k,rfl⟩:∃k',k=k'+1:=⟨k-1,by omega⟩
 grind[Jd]
def AMz (id:Nat):Out->Out
 | .exit j=>bif Nat.beq j id then .norm else .exit j
 | o=>o
theorem Ck.block {E:Env} {L:A3} {id:Nat} {b:Code} {st Fh:St} {o:Out} (h1:Ck E L b st o Fh):Ck E L (.block id b) st (AMz id o) Fh:=by
 obtain⟨n1,h1⟩:=h1;refine⟨n1+1,λm k hm hk=>?_⟩;obtain⟨k,rfl⟩:∃k',k=k'+1:=⟨k-1,by omega⟩;simp only[Jd,h1 m k (by omega) (by omega)];cases o with
 | exit j=>grind[AMz]
 | norm=>rfl
 | ret=>rfl
theorem Ck.simple {E:Env} {L:A3} {c:Code} {st Fh:St} {o:Out} (h:∀cf k,Jd E cf (k+1) L c st=some (o,Fh)):Ck E L c st o Fh:=by
 refine⟨1,λm k hm hk=>?_⟩;obtain⟨k,rfl⟩:∃k',k=k'+1:=⟨k-1,by omega⟩
 grind
theorem Ck.cond {E:Env} {L:A3} {c:Operand} {a b:Code} {st Fh:St} {o:Out} {t:Bool} (hc:Ad st.ρ c=.pv (.sc (.bool t))) (h:Ck E L (bif t then a else b) st o Fh):Ck E L (.cond c a b) st o Fh:=by
 obtain⟨n1,h1⟩:=h;refine⟨n1+1,λm k hm hk=>?_⟩;obtain⟨k,rfl⟩:∃k',k=k'+1:=⟨k-1,by omega⟩
 grind[Jd]
theorem Ck.region {E:Env} {L:A3} {id:Nat} {ops:Array Oper} {st Fh:St} {n:Nat} (h:∀m,n<=m->IK E L (Dl E m L) ops ops.toList st=some Fh):Ck E L (.region id ops false) st .norm Fh:=by
 refine⟨n+1,λm k hm hk=>?_⟩;obtain⟨k,rfl⟩:∃k',k=k'+1:=⟨k-1,by omega⟩
 grind[Jd]
theorem Ck.draws {E:Env} {L:A3} {id:Nat} {ops:Array Oper} {st Fh:St} {n:Nat} {p:Bd} (hp:L.pl id=some p) (h:∀m,n<=m->Xl E L (Dl E m L) p ops st=some Fh):Ck E L (.region id ops true) st .norm Fh:=by
 have hf:∃st0,JA E L ops p.cls p.first st=some st0:=by
  have:=h n (Ac n)
  grind[Xl]
 obtain⟨st0,hf⟩:=hf;refine⟨n+1,λm k hm hk=>?_⟩;obtain⟨k,rfl⟩:∃k',k=k'+1:=⟨k-1,by omega⟩
 grind[Jd,rj,Jn]
theorem Rc.ret {E:Env} {L:A3} {Q:Out->St->Prop} {st:St} (h:Q .ret st):∀ks,Rc E L Q ks .ret st
 | []=>h
 | .seq b::ks=>Rc.ret h ks
 | .blk id::ks=>Rc.ret h ks
 | .loop b::ks=>Rc.ret h ks
theorem HN.prune {lv:Nat->List Nat} {c:Code} {env:En} {ρ:Nat->AV} (h:HN (Em env) ρ):HN (Em (prune lv c env)) ρ:=by
 unfold Tel.prune;split
 .rename_i k hk
  have:∀l:List Nat,HN (Em (l.filterMap λt=>match Em env t with
    | some v=>some (t,v)
    | none=>none)) ρ:=by
   intro l
   induction l with
   | nil=>intro t v hv; simp_all
   | cons x l ih=>
    simp only[List.filterMap_cons];cases hx:Em env x with
    | none=>omega
    | some u=>
     intro t v hv;simp only[Em] at hv;cases hb:Nat.beq t x with
     | true=>
      rw[hb] at hv;simp at hv;rw[Bx hb,<-hv];exact h x u hx
     | false=>rw[hb] at hv; exact ih t v hv
  exact this (lv k)
 omega
theorem N6 {E:Env} {N:Nat} {lk:Lk} {ρ:Nat->AV} {s:AL} (hA:HN lk ρ):∀(rs:List ResultVar) (K:List AV->Prop),qg E lk s rs K->∃vs,Fk E ⟨N,ρ,s⟩ rs=some vs/\K vs
 | [],K,h=>⟨[],rfl,h⟩
 | .tmp t::rs,K,h=>by
  obtain⟨v,h1,h2⟩:=A2 h;obtain⟨vs,h3,h4⟩:=N6 (N:=N) hA rs _ h2;exact⟨_,by simp only[Fk,Mg,h3,hA t v h1],h4⟩
 | .cell a t::rs,K,h=>by
  obtain⟨v,h1,h⟩:=A2 h;obtain⟨k,h2,h⟩:=A2 h;obtain⟨u,h3,h⟩:=AIa h2 h;obtain⟨vs,h4,h5⟩:=N6 (N:=N) hA rs _ h;exact⟨_,by simp only[Fk,Mg,h4,hA a v h1,h3],h5⟩
section
variable {E:Env} {L:A3} {N:Nat} {lv:Nat->List Nat} {ct:Nat->Bool} {rs:List ResultVar} {QR:AV->AL->Prop}
theorem jQ {env:En} {ρ:Nat->AV} {s:AL} (hA:HN (Em env) ρ) (h:qg E (Em env) s rs λvs=>QR (KS vs) s) {o:Out} (ho:∀id,o≠.exit id):Fin E rs QR o ⟨N,ρ,s⟩:=by
 obtain⟨vs,h1,h2⟩:=N6 (N:=N) hA rs _ h;exact⟨ho,vs,h1,h2⟩
theorem Ey:∀(ks:List Frame) (env:En) (s:AL) (ρ:Nat->AV),HN (Em env) ρ ->
  (wUE E L N lv rs QR ks none env s->Rc E L (Fin E rs QR) ks .norm ⟨N,ρ,s⟩)/\(∀j,wUE E L N lv rs QR ks (some j) env s->Rc E L (Fin E rs QR) ks (.exit j) ⟨N,ρ,s⟩)
 | [],env,s,ρ,hA=>⟨λh=>jQ hA h (λ_=>by simp),λj h=>h.elim⟩
 | .seq b::ks,env,s,ρ,hA=>by
  refine⟨λh=>?_,λj h=>?_⟩
  .have ret:qg E (Em env) s rs (λvs=>QR (KS vs) s)->∃o st',Ck E L .ret ⟨N,ρ,s⟩ o st'/\Rc E L (Fin E rs QR) ks o st':=λh=>
    ⟨.ret,_,Ck.simple λ_ _=>rfl,Rc.ret (jQ hA h (λ_=>by simp)) ks⟩
   have skip:wUE E L N lv rs QR ks none env s->∃o st',Ck E L .skip ⟨N,ρ,s⟩ o st'/\Rc E L (Fin E rs QR) ks o st':=λh=>
    ⟨.norm,_,Ck.simple λ_ _=>rfl,(Ey ks env s ρ hA).1 h⟩
   have ex:∀j,wUE E L N lv rs QR ks (some j) env s->∃o st',Ck E L (.exit j) ⟨N,ρ,s⟩ o st'/\Rc E L (Fin E rs QR) ks o st':=λj h=>
    ⟨.exit j,_,Ck.simple λ_ _=>rfl,(Ey ks env s ρ hA).2 j h⟩
   have any:∀b,Wp E L N rs b ks (prune lv b env) s QR->∃o st',Ck E L b ⟨N,ρ,s⟩ o st'/\Rc E L (Fin E rs QR) ks o st':=λb h=>h ρ hA.prune
   grind[Rc]
  .exact(Ey ks env s ρ hA).2 j h
 | .blk id::ks,env,s,ρ,hA=>by
  refine⟨λh=>?_,λj h=>?_⟩
  .exact(Ey ks env s ρ hA).1 h
  .change (match Nat.beq j id with|true=>wUE E L N lv rs QR ks none env s|false=>wUE E L N lv rs QR ks (some j) env s) at h
   show(bif Nat.beq j id then Rc E L (Fin E rs QR) ks .norm ⟨N,ρ,s⟩ else Rc E L (Fin E rs QR) ks (.exit j) ⟨N,ρ,s⟩)
   cases hb:Nat.beq j id with
   | true=>rw[hb] at h; exact(Ey ks env s ρ hA).1 h
   | false=>rw[hb] at h; exact(Ey ks env s ρ hA).2 j h
 | .loop b::ks,env,s,ρ,hA=>by
  refine⟨λh=>?_,λj h=>?_⟩
  .exact h ρ hA.prune
  .exact(Ey ks env s ρ hA).2 j h
theorem Wp.seq {a b:Code} {ks:List Frame} {env:En} {s:AL} (h:Wp E L N rs a (.seq b::ks) env s QR):Wp E L N rs (.seq a b) ks env s QR:=by
 intro ρ hA;obtain⟨o,st,h1,h2⟩:=h ρ hA;cases o with
 | norm=>
  obtain⟨o,st',h3,h4⟩:=h2;exact⟨o,st',h1.seq h3,h4⟩
 | exit j=>exact⟨_,_,h1.AT7 (by simp),h2⟩
 | ret=>exact⟨_,_,h1.AT7 (by simp),h2⟩
theorem Wp.loop {b:Code} {ks:List Frame} {env:En} {s:AL} (h:Wp E L N rs b (.loop b::ks) env s QR):Wp E L N rs (.loop b) ks env s QR:=by
 intro ρ hA;obtain⟨o,st,h1,h2⟩:=h ρ hA;cases o with
 | norm=>
  obtain⟨o,st',h3,h4⟩:=h2;exact⟨o,st',h1.loop h3,h4⟩
 | exit j=>exact⟨_,_,h1.AIc (by simp),h2⟩
 | ret=>exact⟨_,_,h1.AIc (by simp),h2⟩
theorem Wp.block {id:Nat} {b:Code} {ks:List Frame} {env:En} {s:AL} (h:Wp E L N rs b (.blk id::ks) env s QR):Wp E L N rs (.block id b) ks env s QR:=by
 intro ρ hA;obtain⟨o,st,h1,h2⟩:=h ρ hA;refine⟨_,st,h1.block,?_⟩;cases o with
 | norm=>exact h2
 | ret=>exact h2
 | exit j=>
  grind[Rc,AMz]
theorem wp_region {id:Nat} {ops:Array Oper} {env:En} {s:AL} {K:En->AL->Prop} (h:VZ E L N ops ops.toList env s K) (ρ:Nat->AV) (hA:HN (Em env) ρ):∃env' ρ' s',Ck E L (.region id ops false) ⟨N,ρ,s⟩ .norm ⟨N,ρ',s'⟩/\HN (Em env') ρ'/\K env' s':=by
 obtain⟨env',ρ',s',n,h1,h2,h3⟩:=jO _ _ (Ac _) _ _ ρ h hA;exact⟨env',ρ',s',Ck.region h1,h2,h3⟩
theorem dw {id:Nat} {ops:Array Oper} {env:En} {s:AL} {K:En->AL->Prop} (h:wO (L.pl id) λp=>ABz E L N p ops env s K) (ρ:Nat->AV) (hA:HN (Em env) ρ):∃env' ρ' s',Ck E L (.region id ops true) ⟨N,ρ,s⟩ .norm ⟨N,ρ',s'⟩/\HN (Em env') ρ'/\K env' s':=by
 obtain⟨p,hp,h⟩:=A2 h;obtain⟨env',ρ',s',n,h1,h2,h3⟩:=jP h hA;exact⟨env',ρ',s',Ck.draws hp h1,h2,h3⟩
theorem XO:∀(c:Code) (ks:List Frame) (env:En) (s:AL),wpc E L N lv ct rs QR c ks env s->Wp E L N rs c ks env s QR:=by
 intro c
 induction c with
 | skip=>exact λks env s h ρ hA=>⟨.norm,_,Ck.simple λ_ _=>rfl,(Ey ks env s ρ hA).1 h⟩
 | ret=>exact λks env s h ρ hA=>⟨.ret,_,Ck.simple λ_ _=>rfl,Rc.ret (jQ hA h (λ_=>by simp)) ks⟩
 | exit j=>exact λks env s h ρ hA=>⟨.exit j,_,Ck.simple λ_ _=>rfl,(Ey ks env s ρ hA).2 j h⟩
 | region id ops d=>
  intro ks env s h ρ hA;cases d with
  | false=>
   obtain⟨env',ρ',s',h1,h2,h3⟩:=wp_region (id:=id) h ρ hA;exact⟨.norm,_,h1,(Ey ks env' s' ρ' h2).1 h3⟩
  | true=>
   obtain⟨env',ρ',s',h1,h2,h3⟩:=dw h ρ hA;exact⟨.norm,_,h1,(Ey ks env' s' ρ' h2).1 h3⟩
 | seq a b iha kS=>
  intro ks env s h
  have go:∀ks env s,(match AEP ct b with
     | true=>Wp E L N rs b ks (prune lv b env) s QR
     | false=>wpc E L N lv ct rs QR b ks env s)->Wp E L N rs b ks env s QR:=by
   intro ks env s h;cases hc:AEP ct b with
   | true=>
    rw[hc] at h;exact λρ hA=>h ρ hA.prune
   | false=>
    simp_all
  have gen:wpc E L N lv ct rs QR a (.seq b::ks) env s->Wp E L N rs (.seq a b) ks env s QR:=λh=>Wp.seq (iha _ _ _ h)
  cases a with
  | region id ops d=>
   intro ρ hA;cases d with
   | false=>
    obtain⟨env',ρ',s',h1,h2,h3⟩:=wp_region (id:=id) h ρ hA;obtain⟨o,st,h4,h5⟩:=go _ _ _ h3 ρ' h2;exact⟨o,st,h1.seq h4,h5⟩
   | true=>
    obtain⟨env',ρ',s',h1,h2,h3⟩:=dw h ρ hA;obtain⟨o,st,h4,h5⟩:=go _ _ _ h3 ρ' h2;exact⟨o,st,h1.seq h4,h5⟩
  | _=>simp[*]
 | cond c a b iha kS=>
  intro ks env s h ρ hA;obtain⟨cv,h1,h⟩:=A2 h;unfold AO at h;split at h
  .rename_i t
   cases t with
   | true=>
    obtain⟨o,st,h3,h4⟩:=iha _ _ _ (h.1 rfl) ρ hA;exact⟨o,st,Ck.cond (Bw hA h1) h3,h4⟩
   | false=>
    obtain⟨o,st,h3,h4⟩:=kS _ _ _ (h.2 rfl) ρ hA;exact⟨o,st,Ck.cond (Bw hA h1) h3,h4⟩
  simp_all
 | block id b ih=>simp_all[Wp.block]
 | loop b ih=>exact λks env s h ρ hA=>h ρ hA.prune
 | rangeFunc g ps a b _ _=>exact λks env s h ρ hA=>h ρ hA.prune
 | _=>simp
theorem qo {b:Code} {ks:List Frame} {env:En} {s:AL} (h:wpc E L N lv ct rs QR b (.loop b::ks) env s):Wp E L N rs (.loop b) ks env s QR:=Wp.loop (XO _ _ _ _ h)
theorem AM0 {A:Prop} (c:Code) (ks:List Frame) (env:En) (s:AL) (h:A) (e:A=wpc E L N lv ct rs QR c ks env s):Wp E L N rs c ks env s QR:=XO c ks env s (e ▸ h)
theorem AM1 {A:Prop} (b:Code) (ks:List Frame) (env:En) (s:AL) (h:A) (e:A=wpc E L N lv ct rs QR b (.loop b::ks) env s):Wp E L N rs (.loop b) ks env s QR:=qo (e ▸ h)
end
def Ur (cf Lq:Cp):Prop:=∀f args s r,cf f args s=some r->Lq f args s=some r
theorem XP {E:Env} {L:A3} {cf Lq:Cp} (hc:Ur cf Lq) {ρ:Nat->AV} {s:AL} {o:Oper} {r:AV×AL} (h:NT E L cf ρ s o=some r):NT E L Lq ρ s o=some r:=by
 obtain⟨dst,op,type,pos,after,guard⟩:=o;cases op with
 | call c=>
  obtain⟨callee,args,ts⟩:=c;cases callee with
  | builtin b=>exact h
  | value f=>
   simp only[NT] at h ⊢;split at h
   .exact hc _ _ _ _ h
   omega
  | invoke x n=>assumption
 | _=>exact h
theorem jR {E:Env} {L:A3} {cf Lq:Cp} (hc:Ur cf Lq) {st st':St} {o:Oper} (h:M9 E L cf st o=some st'):M9 E L Lq st o=some st':=by grind[M9,XP]
theorem qp {E:Env} {L:A3} {cf Lq:Cp} (hc:Ur cf Lq) {ops:Array Oper}:∀(n:Nat) (l:List Oper),l.length<=n->∀(st st':St),IK E L cf ops l st=some st'->IK E L Lq ops l st=some st':=by
 intro n
 induction n with
 | zero=>
  intro l hl st st' h;have:l=[]:=ja.1 (by omega);subst this;exact h
 | succ n ih=>
  intro l hl st st' h;cases l with
  | nil=>exact h
  | cons o rest=>
   have hl':rest.length<=n:=by grind
   have one:(match E7 ops st.ρ o with
     | some true=>match M9 E L cf st o with
      | some st=>IK E L cf ops rest st
      | none=>none
     | some false=>match KO st o.dst (.tuple []) with
      | some st=>IK E L cf ops rest st
      | none=>none
     | none=>none)=some st'->(match E7 ops st.ρ o with
     | some true=>match M9 E L Lq st o with
      | some st=>IK E L Lq ops rest st
      | none=>none
     | some false=>match KO st o.dst (.tuple []) with
      | some st=>IK E L Lq ops rest st
      | none=>none
     | none=>none)=some st':=by
    intro h;split at h
    .grind[jR]
    .grind
    .omega
   match rest,hl',h,one with
   | [],hl',h,one=>
    rw[IK] at h ⊢ <;> first|exact one h|simp
   | [o1],hl',h,one=>
    rw[IK] at h ⊢ <;> first|exact one h|simp
   | o1::o2::rest',hl',h,one=>
    rw[IK] at h ⊢;cases hk:fused o o1 o2 with
    | none=>rw[hk] at h; exact one h
    | some k=>
     simp only[hk] at h ⊢;cases h1:I8 E L st.ρ st.s k with
     | some q=>
      grind
     | none=>
      simp only[h1] at h ⊢;exact one h
theorem qt {E:Env} {L:A3} {cf Lq:Cp} (hc:Ur cf Lq) {ops:Array Oper} {ρ:Nat->AV} {s:AL} {o:Oper} {r:AV×AL} (h:NU E L cf ops ρ s o=some r):NU E L Lq ops ρ s o=some r:=by grind[NU,XP]
theorem Hs {E:Env} {L:A3} {cf Lq:Cp} (hc:Ur cf Lq) {ops:Array Oper} {cls:List eH}:∀(l:List Nat) (st:St) (acc:List AL) (r:St×List AL),HE E L cf ops cls l st acc=some r->HE E L Lq ops cls l st acc=some r
 | [],st,acc,r,h=>h
 | i::rest,st,acc,r,h=>by
  simp only[HE] at h ⊢;cases ho:ops[i]? with
  | none=>grind
  | some o=>
   cases Bi:cls[i]? with
   | none=>grind
   | some c=>
    simp only[ho,Bi] at h ⊢;cases c with
    | q ts=>
     simp only at h ⊢;cases h1:E8 E L ops st.ρ st.s o with
     | none=>grind
     | some v=>
      simp only[h1] at h ⊢;cases h2:KO st o.dst v with
      | none=>grind
      | some Fh=>
       simp only[h2] at h ⊢;exact Hs hc rest _ _ _ h
    | w k=>
     simp only at h ⊢;cases h1:NU E L cf ops st.ρ st.s o with
     | none=>grind
     | some v=>
      obtain⟨v,s⟩:=v;simp only[h1,qt hc h1] at h ⊢;cases h2:KO { st with s:=s } o.dst v with
      | none=>grind
      | some Fh=>
       simp only[h2] at h ⊢;exact Hs hc rest _ _ _ h
    | fa k j x=>
     simp only at h ⊢;cases hj:ops[j]? with
     | none=>grind
     | some o1=>
      cases hx:ops[x]? with
      | none=>grind
      | some o2=>
       simp only[hj,hx] at h ⊢;cases hk:fused o o1 o2 with
       | none=>grind
       | some q=>
        simp only[hk] at h ⊢;cases h1:KQ E L st.ρ st.s q with
        | none=>grind
        | some v=>
         obtain⟨v,s⟩:=v;simp only[h1] at h ⊢;cases h2:J5 st q v s with
         | none=>grind
         | some Fh=>
          simp only[h2] at h ⊢;exact Hs hc rest _ _ _ h
    | fj=>exact Hs hc rest _ _ _ h
    | fx=>exact Hs hc rest _ _ _ h
    | h ts=>omega
theorem ZO {E:Env} {L:A3} {cf Lq:Cp} (hc:Ur cf Lq) {ops:Array Oper} {st st':St} {p:Option Bd} (h:Jn E L cf ops st p=some st'):Jn E L Lq ops st p=some st':=by
 cases p with
 | none=>assumption
 | some p=>
  grind[Jn,Xl,Hs]
theorem PY {f f':Nat->List PV->AL->Option (Out×AL)} {rows:List (List PV)} (hf:∀j row s r,f j row s=some r->f' j row s=some r):∀(j:Nat) (s:AL) (r:Out×AL),Jo f rows j s=some r->Jo f' rows j s=some r
 | 0,s,r,h=>h
 | j+1,s,r,h=>by
  simp only[Jo] at h ⊢;cases hr:rows[j]? with
  | none=>grind
  | some row=>
   rw[hr] at h;simp only at h ⊢;cases hx:f j row s with
   | none=>grind
   | some q=>
    rw[hx] at h;simp only[hf _ _ _ _ hx];obtain⟨o,s1⟩:=q;cases o with
    | norm=>exact PY hf j s1 r h
    | exit i=>exact h
    | ret=>exact h
theorem dx {P:Program} {ev ev':Code->St->Option (Out×St)} {a b:Code} {st:St} {p q:Nat} {el:TypeId} (he:∀c st r,ev c st=some r->ev' c st=some r) (j:Nat) (row:List PV) (s:AL) (r:Out×AL)
  (h:JB P ev a b st p q el j row s=some r):JB P ev' a b st p q el j row s=some r:=by grind[JB]
theorem AB2 {E:Env} {cf Lq:A3->Cp} {L:A3} (hc:Ur (cf L) (Lq L)):∀(n m:Nat),n<=m->∀(c:Code) (st:St) (r:Out×St),Jd E cf n L c st=some r->Jd E Lq m L c st=some r:=by
 intro n
 induction n with
 | zero=>grind[Jd]
 | succ n ih=>
  intro m hm c st r h;obtain⟨m,rfl⟩:∃m',m=m'+1:=⟨m-1,by omega⟩;have hm':n<=m:=by omega
  cases c with
  | skip=>exact h
  | ret=>exact h
  | exit id=>exact h
  | region id ops d=>
   cases d with
   | false=>
    simp only[Jd] at h ⊢;split at h
    .rename_i h1
     simp only[qp hc _ _ (Ac _) _ _ h1];exact h
    grind
   | true=>
    grind[Jd,ZO]
  | seq a b=>
   grind[Jd]
  | cond c a b=>
   grind[Jd]
  | block id b=>
   grind[Jd]
  | loop b=>
   grind[Jd]
  | rangeFunc g ps a b=>
   simp only[Jd] at h ⊢;split at h
   .split at h
    .split at h
     all_goals grind[PY,dx]
    omega
   omega
  | _=>assumption
theorem Lb {E:Env} {cf Lq:A3->Cp} {n m:Nat} (hm:n<=m) {fn:Func} {L:A3} (hc:Ur (cf L) (Lq L)) {args:List AV} {s:AL} {r:AV×AL} (h:JC E cf n fn L args s=some r):JC E Lq m fn L args s=some r:=by grind[JC,AB2]
theorem Us {E:Env} {cf Lq:A3->Cp} {n m:Nat} (hm:n<=m) {f:FuncId} {fn:Func} (hc:∀L,Ur (cf L) (Lq L)) {args:List AV} {s:AL} {r:AV×AL} (h:IW E cf n f fn args s=some r):IW E Lq m f fn args s=some r:=by grind[IW,Lb]
theorem dy {E:Env} {cf Lq:A3->Cp} {n m:Nat} (hm:n<=m) {L:A3} {f:FuncId} {fn:Func} (hc:∀L,Ur (cf L) (Lq L)) {args:List AV} {s:AL} {r:AV×AL} (h:D5 E cf n L f fn args s=some r):D5 E Lq m L f fn args s=some r:=by
 unfold D5 at h ⊢;split at h
 .rename_i hl
  rw[if_pos hl]
  have wr:∀b:Bool,(bif b then IW E cf n f fn args s else
   match JC E cf n fn ⟨0,L.ro,L.rt,E.mu f,E.rr f,E.plan f⟩ args s with
   | some (v,s')=>HR (L.rr f) s.bs.length v s'
   | none=>none)=some r->(bif b then IW E Lq m f fn args s else
   match JC E Lq m fn ⟨0,L.ro,L.rt,E.mu f,E.rr f,E.plan f⟩ args s with
   | some (v,s')=>HR (L.rr f) s.bs.length v s'
   | none=>none)=some r:=by grind[Us,Lb]
  cases hk:E.kind f with
  | esc=>
   grind[Lb]
  | rd=>
   grind[Us,Lb]
  | im=>
   simp only[hk] at h ⊢;exact wr _ h
  | st=>
   simp only[hk] at h ⊢;exact wr _ h
 grind
theorem jS {E:Env}:∀(n m:Nat),n<=m->∀L,Ur (Dl E n L) (Dl E m L):=by
 intro n
 induction n with
 | zero=>intro m _ L f args s r h; grind[Dl]
 | succ n ih=>
  intro m hm L f args s r h;obtain⟨m,rfl⟩:∃m',m=m'+1:=⟨m-1,by omega⟩
  grind[Dl,OU,dy]
theorem BA.ACO {E:Env} {n:Nat} {L:A3} {f:FuncId} {args:List AV} {s s':AL} {v:AV} (h:Dl E n L f args s=some (v,s')):BA E L f args s v s':=
 ⟨n,λm hm=>jS n m hm L f args s (v,s') h⟩
def AM (E:Env) (f:FuncId) (args:List AV) (Post:AV->Prop):Prop:=∃v,Post v/\∀L s,BA E L f args s v s
def FT:Nat->List AV->En
 | _,[]=>[]
 | i,v::vs=>(i,v)::FT (i+1) vs
theorem XQ:∀(i:Nat) (vs:List AV) (t:Nat) (v:AV),Em (FT i vs) t=some v->i<=t/\initρ vs (t-i)=v
 | i,[],t,v,h=>by simp_all[FT]
 | i,u::vs,t,v,h=>by
  simp only[FT,Em] at h;cases hb:Nat.beq t i with
  | true=>
   simp_all[initρ]
  | false=>
   rw[hb] at h;obtain⟨h1,h2⟩:=XQ (i+1) vs t v h;refine⟨by omega,?_⟩;have:t-i=(t-(i+1))+1:=by omega
   rw[this];exact h2
theorem jT (vs:List AV):HN (Em (FT 0 vs)) (initρ vs):=λt v h=>(XQ 0 vs t v h).2
theorem Mt {E:Env} {L:A3} {fn:Func} {body:Code} {args:List AV} {s:AL} {QR:AV->AL->Prop} (hb:fn.body=some body) (h:Wp E L fn.ntmps fn.results.toList body [] (FT 0 args) s QR) :
  ∃v s' n,(∀m,n<=m->JC E (Dl E m) m fn L args s=some (v,s'))/\QR v s':=by
 obtain⟨o,st,⟨n,h1⟩,ho,vs,h2,h3⟩:=h _ (jT args);refine⟨KS vs,st.s,n,λm hm=>?_,h3⟩
 grind[JC]
section
variable {E:Env} {f:FuncId} {fn:Func} {body:Code} {args args':List AV}
def Dh (E:Env) (f:FuncId) (n0 ro rt:Nat):A3:=⟨n0,ro,rt,E.mu f,E.rr f,E.plan f⟩
theorem Ky {L:A3} {s s':AL} {v:AV} {n:Nat} (hfn:E.P.funcs[f]?=some fn) (hc:E.clone f=false) (h:∀m,n<=m->D5 E (Dl E m) m L f fn args s=some (v,s')):BA E L f args s v s':=by
 refine⟨n+1,λm hm=>?_⟩;obtain⟨m,rfl⟩:∃m',m=m'+1:=⟨m-1,by omega⟩
 grind[Dl]
def QP (Post:AV->Prop) (r:AV) (s:AL):Prop:=∃v,close s.bs 0 0 r=some v/\Post v
def QI (n m:Nat) (Post:AV->Prop) (r:AV) (s:AL):Prop:=∃v,close s.bs n m r=some v/\Post v
def QM (rr:Bool) (n:Nat) (Post:AV->AL->Prop) (r:AV) (s:AL):Prop:=∃v s',HR rr n r s=some (v,s')/\Post v s'
theorem nV {Post:AV->Prop} (hb:fn.body=some body)
  (h:Wp E (Dh E f 0 0 0) fn.ntmps fn.results.toList body [] (FT 0 args) ⟨[],[]⟩ (QP Post)) :
  ∃v n,Post v/\∀s m,n<=m->IW E (Dl E m) m f fn args s=some (v,s):=by
 obtain⟨r,s',n,h1,v,h2,h3⟩:=Mt hb h;refine⟨v,n,h3,λs m hm=>?_⟩
 grind[IW,Dh]
theorem AEQ {Post:AV->Prop} (hfn:E.P.funcs[f]?=some fn) (hb:fn.body=some body) (hk:E.kind f=.rd) (hc:E.clone f=false) (hl:args.length<=fn.ntmps) (Bi:AX [] 0 0 args=some args')
  (h:Wp E (Dh E f 0 0 0) fn.ntmps fn.results.toList body [] (FT 0 args') ⟨[],[]⟩ (QP Post)):AM E f args Post:=by
 obtain⟨v,n,h1,h2⟩:=nV hb h;refine⟨v,h1,λL s=>Ky (n:=n) hfn hc λm hm=>?_⟩
 grind[D5]
theorem HM {Post:AV->Prop} (hfn:E.P.funcs[f]?=some fn) (hb:fn.body=some body) (hk:E.kind f=.im) (hc:E.clone f=false) (hl:args.length<=fn.ntmps) (hn:Bo args=true)
  (h:Wp E (Dh E f 0 0 0) fn.ntmps fn.results.toList body [] (FT 0 args) ⟨[],[]⟩ (QP Post)):AM E f args Post:=by
 obtain⟨v,n,h1,h2⟩:=nV hb h;refine⟨v,h1,λL s=>Ky (n:=n) hfn hc λm hm=>?_⟩
 grind[D5]
theorem AER {L:A3} {s:AL} {Post:AV->AL->Prop} (hfn:E.P.funcs[f]?=some fn) (hb:fn.body=some body) (hk:E.kind f=.im) (hc:E.clone f=false) (hl:args.length<=fn.ntmps) (hn:Bo args=false)
  (h:Wp E (Dh E f 0 L.ro L.rt) fn.ntmps fn.results.toList body [] (FT 0 args) s (QM (L.rr f) s.bs.length Post)) :
  ∃v s',Post v s'/\BA E L f args s v s':=by
 obtain⟨r,s',n,h1,v,s'',h2,h3⟩:=Mt hb h;refine⟨v,s'',h3,Ky (n:=n) hfn hc λm hm=>?_⟩
 grind[D5,Dh]
theorem AEF {L:A3} {s:AL} {Post:AV->AL->Prop} (hfn:E.P.funcs[f]?=some fn) (hb:fn.body=some body) (hk:E.kind f=.st) (hc:E.clone f=false) (hl:args.length<=fn.ntmps)
  (h:Wp E (Dh E f 0 L.ro L.rt) fn.ntmps fn.results.toList body [] (FT 0 args) s (QM (L.rr f) s.bs.length Post)) :
  ∃v s',Post v s'/\BA E L f args s v s':=by
 obtain⟨r,s',n,h1,v,s'',h2,h3⟩:=Mt hb h;refine⟨v,s'',h3,Ky (n:=n) hfn hc λm hm=>?_⟩
 grind[D5,Dh]
theorem AB3 {L:A3} {s:AL} {Post:AV->AL->Prop} (hfn:E.P.funcs[f]?=some fn) (hb:fn.body=some body) (hk:E.kind f=.esc) (hc:E.clone f=false) (hl:args.length<=fn.ntmps)
  (h:Wp E (Dh E f L.n0 L.ro L.rt) fn.ntmps fn.results.toList body [] (FT 0 args) s Post) :
  ∃v s',Post v s'/\BA E L f args s v s':=by
 obtain⟨r,s',n,h1,h2⟩:=Mt hb h;refine⟨r,s',h2,Ky (n:=n) hfn hc λm hm=>?_⟩
 grind[D5,Dh]
theorem AB4 {s:AL} {Post:AV->Prop} (hfn:E.P.funcs[f]?=some fn) (hb:fn.body=some body) (hk:E.kind f=.rd) (hc:E.clone f=false) (hl:args.length<=fn.ntmps) (Bi:AX [] 0 0 args=none)
  (h:Wp E (Dh E f s.bs.length s.bs.length s.ts.length) fn.ntmps fn.results.toList body [] (FT 0 args) s (QI s.bs.length s.ts.length Post)) :
  ∃v,Post v/\∀L,BA E L f args s v s:=by
 obtain⟨r,s',n,h1,v,h2,h3⟩:=Mt hb h;refine⟨v,h3,λL=>Ky (n:=n) hfn hc λm hm=>?_⟩
 grind[D5,Dh]
end
theorem nO {A B:Prop} (h:A) (e:A=B):B:=e ▸ h
theorem AD {E:Env} {L:A3} {f:FuncId} {args:List AV} {s:AL} {K:AV->AL->Prop} {Post:AV->Prop} (h:AM E f args Post) (hK:∀v,Post v->K v s):GM E L (.func (.func f) [] []) args s K:=by
 obtain⟨v,h1,h2⟩:=h;refine⟨v,s,?_,hK v h1⟩
 grind
theorem EB {E:Env} {L:A3} {f:FuncId} {args:List AV} {s:AL} {K:AV->AL->Prop} {Post:AV->AL->Prop} (h:∃v s',Post v s'/\BA E L f args s v s') (hK:∀v s',Post v s'->K v s'):GM E L (.func (.func f) [] []) args s K:=by
 obtain⟨v,s',h1,h2⟩:=h;refine⟨v,s',?_,hK v s' h1⟩
 grind
end Go.Tel
