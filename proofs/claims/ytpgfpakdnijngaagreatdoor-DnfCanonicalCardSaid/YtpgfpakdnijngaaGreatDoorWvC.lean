/-
  What a piece of code needs is enough; calls.
-/
import Derived.Test.YtpgfpakdnijngaaGreatDoorWvB
import Derived.Test.YtpgfpakdnijngaaGreatDoorEvI
set_option linter.all false
namespace Go.Tel
theorem CP.seq {E:Env} {L:A3} {a b:Code} {st FU st2:St} {o:Out} (h1:CP E L a st .norm FU) (h2:CP E L b FU o st2):CP E L (.seq a b) st o st2:=by
 obtain⟨n1,h1⟩:=h1;obtain⟨n2,h2⟩:=h2;refine⟨n1+n2+1,λm k hm hk=>?_⟩;obtain⟨k,rfl⟩:∃k',k=k'+1:=⟨k-1,by omega⟩
 grind[IL]
theorem CP.ADJ {E:Env} {L:A3} {a b:Code} {st FU:St} {o:Out} (h1:CP E L a st o FU) (ho:o≠.norm):CP E L (.seq a b) st o FU:=by
 obtain⟨n1,h1⟩:=h1;refine⟨n1+1,λm k hm hk=>?_⟩;obtain⟨k,rfl⟩:∃k',k=k'+1:=⟨k-1,by omega⟩
 grind[IL]
theorem CP.loop {E:Env} {L:A3} {b:Code} {st FU st2:St} {o:Out} (h1:CP E L b st .norm FU) (h2:CP E L (.loop b) FU o st2):CP E L (.loop b) st o st2:=by
 obtain⟨n1,h1⟩:=h1;obtain⟨n2,h2⟩:=h2;refine⟨n1+n2+1,λm k hm hk=>?_⟩;obtain⟨k,rfl⟩:∃k',k=k'+1:=⟨k-1,by omega⟩
 grind[IL]
theorem CP.AHR {E:Env} {L:A3} {b:Code} {st FU:St} {o:Out} (h1:CP E L b st o FU) (ho:o≠.norm):CP E L (.loop b) st o FU:=by
 obtain⟨n1,h1⟩:=h1;refine⟨n1+1,λm k hm hk=>?_⟩;obtain⟨k,rfl⟩:∃k',k=k'+1:=⟨k-1,by omega⟩
 grind[IL]
def ADK (id:Nat):Out->Out
 | .exit j=>bif Nat.beq j id then .norm else .exit j
 | o=>o
theorem CP.block {E:Env} {L:A3} {id:Nat} {b:Code} {st FU:St} {o:Out} (h1:CP E L b st o FU):CP E L (.block id b) st (ADK id o) FU:=by
 obtain⟨n1,h1⟩:=h1;refine⟨n1+1,λm k hm hk=>?_⟩;obtain⟨k,rfl⟩:∃k',k=k'+1:=⟨k-1,by omega⟩;simp only[IL,h1 m k (by omega) (by omega)];cases o with
 | exit j=>grind[ADK]
 | norm=>rfl
 | ret=>rfl
theorem CP.simple {E:Env} {L:A3} {c:Code} {st FU:St} {o:Out} (h:∀cf k,IL E cf (k+1) L c st=some (o,FU)):CP E L c st o FU:=by
 refine⟨1,λm k hm hk=>?_⟩;obtain⟨k,rfl⟩:∃k',k=k'+1:=⟨k-1,by omega⟩
 grind
theorem CP.cond {E:Env} {L:A3} {c:Operand} {a b:Code} {st FU:St} {o:Out} {t:Bool} (hc:AX st.ρ c=.pv (.sc (.bool t))) (h:CP E L (bif t then a else b) st o FU):CP E L (.cond c a b) st o FU:=by
 obtain⟨n1,h1⟩:=h;refine⟨n1+1,λm k hm hk=>?_⟩;obtain⟨k,rfl⟩:∃k',k=k'+1:=⟨k-1,by omega⟩
 grind[IL]
theorem CP.region {E:Env} {L:A3} {id:Nat} {ops:Array Oper} {st FU:St} {n:Nat} (h:∀m,n<=m->IQ E L (DG E m L) ops ops.toList st=some FU):CP E L (.region id ops false) st .norm FU:=by
 refine⟨n+1,λm k hm hk=>?_⟩;obtain⟨k,rfl⟩:∃k',k=k'+1:=⟨k-1,by omega⟩
 grind[IL]
theorem CP.draws {E:Env} {L:A3} {id:Nat} {ops:Array Oper} {st FU:St} {n:Nat} {p:BS} (hp:L.pl id=some p) (h:∀m,n<=m->Xi E L (DG E m L) p ops st=some FU):CP E L (.region id ops true) st .norm FU:=by
 have hf:∃st0,JB E L ops p.cls p.first st=some st0:=by
  have:=h n (AN n)
  grind[Xi]
 obtain⟨st0,hf⟩:=hf;refine⟨n+1,λm k hm hk=>?_⟩;obtain⟨k,rfl⟩:∃k',k=k'+1:=⟨k-1,by omega⟩
 grind[IL,sJ,Jh]
theorem RG.ret {E:Env} {L:A3} {Q:Out->St->Prop} {st:St} (h:Q .ret st):∀ks,RG E L Q ks .ret st
 | []=>h
 | .seq b::ks=>RG.ret h ks
 | .blk id::ks=>RG.ret h ks
 | .loop b::ks=>RG.ret h ks
theorem G5.prune {lv:Nat->List Nat} {c:Code} {env:En} {ρ:Nat->AV} (h:G5 (EC env) ρ):G5 (EC (prune lv c env)) ρ:=by
 unfold Tel.prune;split
 .rename_i k hk
  have:∀l:List Nat,G5 (EC (l.filterMap λt=>match EC env t with
    | some v=>some (t,v)
    | none=>none)) ρ:=by
   intro l
   induction l with
   | nil=>intro t v hv; simp_all
   | cons x l ih=>
    simp only[List.filterMap_cons];cases hx:EC env x with
    | none=>omega
    | some u=>
     intro t v hv;simp only[EC] at hv;cases hb:Nat.beq t x with
     | true=>
      rw[hb] at hv;simp at hv;rw[Bo hb,<-hv];exact h x u hx
     | false=>rw[hb] at hv; exact ih t v hv
  exact this (lv k)
 omega
theorem N2 {E:Env} {N:Nat} {lk:Lk} {ρ:Nat->AV} {s:AM} (hA:G5 lk ρ):∀(rs:List ResultVar) (K:List AV->Prop),dm E lk s rs K->∃vs,FY E ⟨N,ρ,s⟩ rs=some vs/\K vs
 | [],K,h=>⟨[],rfl,h⟩
 | .tmp t::rs,K,h=>by
  obtain⟨v,h1,h2⟩:=BC h;obtain⟨vs,h3,h4⟩:=N2 (N:=N) hA rs _ h2;exact⟨_,by simp only[FY,Mh,h3,hA t v h1],h4⟩
 | .cell a t::rs,K,h=>by
  obtain⟨v,h1,h⟩:=BC h;obtain⟨k,h2,h⟩:=BC h;obtain⟨u,h3,h⟩:=AHP h2 h;obtain⟨vs,h4,h5⟩:=N2 (N:=N) hA rs _ h;exact⟨_,by simp only[FY,Mh,h4,hA a v h1,h3],h5⟩
section
variable {E:Env} {L:A3} {N:Nat} {lv:Nat->List Nat} {ct:Nat->Bool} {rs:List ResultVar} {QR:AV->AM->Prop}
theorem ZR {env:En} {ρ:Nat->AV} {s:AM} (hA:G5 (EC env) ρ) (h:dm E (EC env) s rs λvs=>QR (JC vs) s) {o:Out} (ho:∀id,o≠.exit id):Fin E rs QR o ⟨N,ρ,s⟩:=by
 obtain⟨vs,h1,h2⟩:=N2 (N:=N) hA rs _ h;exact⟨ho,vs,h1,h2⟩
theorem Eo:∀(ks:List Frame) (env:En) (s:AM) (ρ:Nat->AV),G5 (EC env) ρ ->
  (wUE E L N lv rs QR ks none env s->RG E L (Fin E rs QR) ks .norm ⟨N,ρ,s⟩)/\(∀j,wUE E L N lv rs QR ks (some j) env s->RG E L (Fin E rs QR) ks (.exit j) ⟨N,ρ,s⟩)
 | [],env,s,ρ,hA=>⟨λh=>ZR hA h (λ_=>by simp),λj h=>h.elim⟩
 | .seq b::ks,env,s,ρ,hA=>by
  refine⟨λh=>?_,λj h=>?_⟩
  .have ret:dm E (EC env) s rs (λvs=>QR (JC vs) s)->∃o st',CP E L .ret ⟨N,ρ,s⟩ o st'/\RG E L (Fin E rs QR) ks o st':=λh=>
    ⟨.ret,_,CP.simple λ_ _=>rfl,RG.ret (ZR hA h (λ_=>by simp)) ks⟩
   have skip:wUE E L N lv rs QR ks none env s->∃o st',CP E L .skip ⟨N,ρ,s⟩ o st'/\RG E L (Fin E rs QR) ks o st':=λh=>
    ⟨.norm,_,CP.simple λ_ _=>rfl,(Eo ks env s ρ hA).1 h⟩
   have ex:∀j,wUE E L N lv rs QR ks (some j) env s->∃o st',CP E L (.exit j) ⟨N,ρ,s⟩ o st'/\RG E L (Fin E rs QR) ks o st':=λj h=>
    ⟨.exit j,_,CP.simple λ_ _=>rfl,(Eo ks env s ρ hA).2 j h⟩
   have any:∀b,Wp E L N rs b ks (prune lv b env) s QR->∃o st',CP E L b ⟨N,ρ,s⟩ o st'/\RG E L (Fin E rs QR) ks o st':=λb h=>h ρ hA.prune
   grind[RG]
  .exact(Eo ks env s ρ hA).2 j h
 | .blk id::ks,env,s,ρ,hA=>by
  refine⟨λh=>?_,λj h=>?_⟩
  .exact(Eo ks env s ρ hA).1 h
  .change (match Nat.beq j id with|true=>wUE E L N lv rs QR ks none env s|false=>wUE E L N lv rs QR ks (some j) env s) at h
   show(bif Nat.beq j id then RG E L (Fin E rs QR) ks .norm ⟨N,ρ,s⟩ else RG E L (Fin E rs QR) ks (.exit j) ⟨N,ρ,s⟩)
   cases hb:Nat.beq j id with
   | true=>rw[hb] at h; exact(Eo ks env s ρ hA).1 h
   | false=>rw[hb] at h; exact(Eo ks env s ρ hA).2 j h
 | .loop b::ks,env,s,ρ,hA=>by
  refine⟨λh=>?_,λj h=>?_⟩
  .exact h ρ hA.prune
  .exact(Eo ks env s ρ hA).2 j h
theorem Wp.seq {a b:Code} {ks:List Frame} {env:En} {s:AM} (h:Wp E L N rs a (.seq b::ks) env s QR):Wp E L N rs (.seq a b) ks env s QR:=by
 intro ρ hA;obtain⟨o,st,h1,h2⟩:=h ρ hA;cases o with
 | norm=>
  obtain⟨o,st',h3,h4⟩:=h2;exact⟨o,st',h1.seq h3,h4⟩
 | exit j=>exact⟨_,_,h1.ADJ (by simp),h2⟩
 | ret=>exact⟨_,_,h1.ADJ (by simp),h2⟩
theorem Wp.loop {b:Code} {ks:List Frame} {env:En} {s:AM} (h:Wp E L N rs b (.loop b::ks) env s QR):Wp E L N rs (.loop b) ks env s QR:=by
 intro ρ hA;obtain⟨o,st,h1,h2⟩:=h ρ hA;cases o with
 | norm=>
  obtain⟨o,st',h3,h4⟩:=h2;exact⟨o,st',h1.loop h3,h4⟩
 | exit j=>exact⟨_,_,h1.AHR (by simp),h2⟩
 | ret=>exact⟨_,_,h1.AHR (by simp),h2⟩
theorem Wp.block {id:Nat} {b:Code} {ks:List Frame} {env:En} {s:AM} (h:Wp E L N rs b (.blk id::ks) env s QR):Wp E L N rs (.block id b) ks env s QR:=by
 intro ρ hA;obtain⟨o,st,h1,h2⟩:=h ρ hA;refine⟨_,st,h1.block,?_⟩;cases o with
 | norm=>exact h2
 | ret=>exact h2
 | exit j=>
  grind[RG,ADK]
theorem wp_region {id:Nat} {ops:Array Oper} {env:En} {s:AM} {K:En->AM->Prop} (h:UW E L N ops ops.toList env s K) (ρ:Nat->AV) (hA:G5 (EC env) ρ):∃env' ρ' s',CP E L (.region id ops false) ⟨N,ρ,s⟩ .norm ⟨N,ρ',s'⟩/\G5 (EC env') ρ'/\K env' s':=by
 obtain⟨env',ρ',s',n,h1,h2,h3⟩:=jJ _ _ (AN _) _ _ ρ h hA;exact⟨env',ρ',s',CP.region h1,h2,h3⟩
theorem UX {id:Nat} {ops:Array Oper} {env:En} {s:AM} {K:En->AM->Prop} (h:wO (L.pl id) λp=>qD E L N p ops env s K) (ρ:Nat->AV) (hA:G5 (EC env) ρ):∃env' ρ' s',CP E L (.region id ops true) ⟨N,ρ,s⟩ .norm ⟨N,ρ',s'⟩/\G5 (EC env') ρ'/\K env' s':=by
 obtain⟨p,hp,h⟩:=BC h;obtain⟨env',ρ',s',n,h1,h2,h3⟩:=jK h hA;exact⟨env',ρ',s',CP.draws hp h1,h2,h3⟩
theorem XD:∀(c:Code) (ks:List Frame) (env:En) (s:AM),wpc E L N lv ct rs QR c ks env s->Wp E L N rs c ks env s QR:=by
 intro c
 induction c with
 | skip=>exact λks env s h ρ hA=>⟨.norm,_,CP.simple λ_ _=>rfl,(Eo ks env s ρ hA).1 h⟩
 | ret=>exact λks env s h ρ hA=>⟨.ret,_,CP.simple λ_ _=>rfl,RG.ret (ZR hA h (λ_=>by simp)) ks⟩
 | exit j=>exact λks env s h ρ hA=>⟨.exit j,_,CP.simple λ_ _=>rfl,(Eo ks env s ρ hA).2 j h⟩
 | region id ops d=>
  intro ks env s h ρ hA;cases d with
  | false=>
   obtain⟨env',ρ',s',h1,h2,h3⟩:=wp_region (id:=id) h ρ hA;exact⟨.norm,_,h1,(Eo ks env' s' ρ' h2).1 h3⟩
  | true=>
   obtain⟨env',ρ',s',h1,h2,h3⟩:=UX h ρ hA;exact⟨.norm,_,h1,(Eo ks env' s' ρ' h2).1 h3⟩
 | seq a b Y2 Uh=>
  intro ks env s h
  have go:∀ks env s,(match ADP ct b with
     | true=>Wp E L N rs b ks (prune lv b env) s QR
     | false=>wpc E L N lv ct rs QR b ks env s)->Wp E L N rs b ks env s QR:=by
   intro ks env s h;cases hc:ADP ct b with
   | true=>
    rw[hc] at h;exact λρ hA=>h ρ hA.prune
   | false=>
    simp_all
  have gen:wpc E L N lv ct rs QR a (.seq b::ks) env s->Wp E L N rs (.seq a b) ks env s QR:=λh=>Wp.seq (Y2 _ _ _ h)
  cases a with
  | region id ops d=>
   intro ρ hA;cases d with
   | false=>
    obtain⟨env',ρ',s',h1,h2,h3⟩:=wp_region (id:=id) h ρ hA;obtain⟨o,st,h4,h5⟩:=go _ _ _ h3 ρ' h2;exact⟨o,st,h1.seq h4,h5⟩
   | true=>
    obtain⟨env',ρ',s',h1,h2,h3⟩:=UX h ρ hA;obtain⟨o,st,h4,h5⟩:=go _ _ _ h3 ρ' h2;exact⟨o,st,h1.seq h4,h5⟩
  | _=>simp[*]
 | cond c a b Y2 Uh=>
  intro ks env s h ρ hA;obtain⟨cv,h1,h⟩:=BC h;unfold AO at h;split at h
  .rename_i t
   cases t with
   | true=>
    obtain⟨o,st,h3,h4⟩:=Y2 _ _ _ (h.1 rfl) ρ hA;exact⟨o,st,CP.cond (CA hA h1) h3,h4⟩
   | false=>
    obtain⟨o,st,h3,h4⟩:=Uh _ _ _ (h.2 rfl) ρ hA;exact⟨o,st,CP.cond (CA hA h1) h3,h4⟩
  simp_all
 | block id b ih=>simp_all[Wp.block]
 | loop b ih=>exact λks env s h ρ hA=>h ρ hA.prune
 | rangeFunc g ps a b _ _=>exact λks env s h ρ hA=>h ρ hA.prune
 | _=>simp
theorem qO {b:Code} {ks:List Frame} {env:En} {s:AM} (h:wpc E L N lv ct rs QR b (.loop b::ks) env s):Wp E L N rs (.loop b) ks env s QR:=Wp.loop (XD _ _ _ _ h)
theorem ALQ {A:Prop} (c:Code) (ks:List Frame) (env:En) (s:AM) (h:A) (e:A=wpc E L N lv ct rs QR c ks env s):Wp E L N rs c ks env s QR:=XD c ks env s (e ▸ h)
theorem ALR {A:Prop} (b:Code) (ks:List Frame) (env:En) (s:AM) (h:A) (e:A=wpc E L N lv ct rs QR b (.loop b::ks) env s):Wp E L N rs (.loop b) ks env s QR:=qO (e ▸ h)
end
def Ud (cf Lq:Cn):Prop:=∀f args s r,cf f args s=some r->Lq f args s=some r
theorem XE {E:Env} {L:A3} {cf Lq:Cn} (hc:Ud cf Lq) {ρ:Nat->AV} {s:AM} {o:Oper} {r:AV×AM} (h:NW E L cf ρ s o=some r):NW E L Lq ρ s o=some r:=by
 obtain⟨dst,op,type,pos,after,guard⟩:=o;cases op with
 | call c=>
  obtain⟨callee,args,ts⟩:=c;cases callee with
  | builtin b=>exact h
  | value f=>
   simp only[NW] at h ⊢;split at h
   .exact hc _ _ _ _ h
   omega
  | invoke x n=>assumption
 | _=>exact h
theorem jL {E:Env} {L:A3} {cf Lq:Cn} (hc:Ud cf Lq) {st st':St} {o:Oper} (h:M7 E L cf st o=some st'):M7 E L Lq st o=some st':=by grind[M7,XE]
theorem qP {E:Env} {L:A3} {cf Lq:Cn} (hc:Ud cf Lq) {ops:Array Oper}:∀(n:Nat) (l:List Oper),l.length<=n->∀(st st':St),IQ E L cf ops l st=some st'->IQ E L Lq ops l st=some st':=by
 intro n
 induction n with
 | zero=>
  intro l hl st st' h;have:l=[]:=jV.1 (by omega);subst this;exact h
 | succ n ih=>
  intro l hl st st' h;cases l with
  | nil=>exact h
  | cons o rest=>
   have hl':rest.length<=n:=by grind
   have one:(match E1 ops st.ρ o with
     | some true=>match M7 E L cf st o with
      | some st=>IQ E L cf ops rest st
      | none=>none
     | some false=>match KG st o.dst (.tuple []) with
      | some st=>IQ E L cf ops rest st
      | none=>none
     | none=>none)=some st'->(match E1 ops st.ρ o with
     | some true=>match M7 E L Lq st o with
      | some st=>IQ E L Lq ops rest st
      | none=>none
     | some false=>match KG st o.dst (.tuple []) with
      | some st=>IQ E L Lq ops rest st
      | none=>none
     | none=>none)=some st':=by
    intro h;split at h
    .grind[jL]
    .grind
    .omega
   match rest,hl',h,one with
   | [],hl',h,one=>
    rw[IQ] at h ⊢ <;> first|exact one h|simp
   | [o1],hl',h,one=>
    rw[IQ] at h ⊢ <;> first|exact one h|simp
   | o1::o2::rest',hl',h,one=>
    rw[IQ] at h ⊢;cases hk:fused o o1 o2 with
    | none=>rw[hk] at h; exact one h
    | some k=>
     simp only[hk] at h ⊢;cases h1:I9 E L st.ρ st.s k with
     | some q=>
      grind
     | none=>
      simp only[h1] at h ⊢;exact one h
theorem qQ {E:Env} {L:A3} {cf Lq:Cn} (hc:Ud cf Lq) {ops:Array Oper} {ρ:Nat->AV} {s:AM} {o:Oper} {r:AV×AM} (h:NY E L cf ops ρ s o=some r):NY E L Lq ops ρ s o=some r:=by grind[NY,XE]
theorem Hi {E:Env} {L:A3} {cf Lq:Cn} (hc:Ud cf Lq) {ops:Array Oper} {cls:List eJ}:∀(l:List Nat) (st:St) (acc:List AM) (r:St×List AM),HB E L cf ops cls l st acc=some r->HB E L Lq ops cls l st acc=some r
 | [],st,acc,r,h=>h
 | i::rest,st,acc,r,h=>by
  simp only[HB] at h ⊢;cases ho:ops[i]? with
  | none=>grind
  | some o=>
   cases Ba:cls[i]? with
   | none=>grind
   | some c=>
    simp only[ho,Ba] at h ⊢;cases c with
    | q ts=>
     simp only at h ⊢;cases h1:E2 E L ops st.ρ st.s o with
     | none=>grind
     | some v=>
      simp only[h1] at h ⊢;cases h2:KG st o.dst v with
      | none=>grind
      | some FU=>
       simp only[h2] at h ⊢;exact Hi hc rest _ _ _ h
    | w k=>
     simp only at h ⊢;cases h1:NY E L cf ops st.ρ st.s o with
     | none=>grind
     | some v=>
      obtain⟨v,s⟩:=v;simp only[h1,qQ hc h1] at h ⊢;cases h2:KG { st with s:=s } o.dst v with
      | none=>grind
      | some FU=>
       simp only[h2] at h ⊢;exact Hi hc rest _ _ _ h
    | fa k j x=>
     simp only at h ⊢;cases hj:ops[j]? with
     | none=>grind
     | some o1=>
      cases hx:ops[x]? with
      | none=>grind
      | some o2=>
       simp only[hj,hx] at h ⊢;cases hk:fused o o1 o2 with
       | none=>grind
       | some q=>
        simp only[hk] at h ⊢;cases h1:KI E L st.ρ st.s q with
        | none=>grind
        | some v=>
         obtain⟨v,s⟩:=v;simp only[h1] at h ⊢;cases h2:Jv st q v s with
         | none=>grind
         | some FU=>
          simp only[h2] at h ⊢;exact Hi hc rest _ _ _ h
    | fj=>exact Hi hc rest _ _ _ h
    | fx=>exact Hi hc rest _ _ _ h
    | h ts=>omega
theorem ZU {E:Env} {L:A3} {cf Lq:Cn} (hc:Ud cf Lq) {ops:Array Oper} {st st':St} {p:Option BS} (h:Jh E L cf ops st p=some st'):Jh E L Lq ops st p=some st':=by
 cases p with
 | none=>assumption
 | some p=>
  grind[Jh,Xi,Hi]
theorem PT {f f':Nat->List PV->AM->Option (Out×AM)} {rows:List (List PV)} (hf:∀j row s r,f j row s=some r->f' j row s=some r):∀(j:Nat) (s:AM) (r:Out×AM),FP f rows j s=some r->FP f' rows j s=some r
 | 0,s,r,h=>h
 | j+1,s,r,h=>by
  simp only[FP] at h ⊢;cases hr:rows[j]? with
  | none=>grind
  | some row=>
   rw[hr] at h;simp only at h ⊢;cases hx:f j row s with
   | none=>grind
   | some q=>
    rw[hx] at h;simp only[hf _ _ _ _ hx];obtain⟨o,s1⟩:=q;cases o with
    | norm=>exact PT hf j s1 r h
    | exit i=>exact h
    | ret=>exact h
theorem dy {P:Program} {ev ev':Code->St->Option (Out×St)} {a b:Code} {st:St} {p q:Nat} {el:TypeId} (he:∀c st r,ev c st=some r->ev' c st=some r) (j:Nat) (row:List PV) (s:AM) (r:Out×AM)
  (h:FZ P ev a b st p q el j row s=some r):FZ P ev' a b st p q el j row s=some r:=by grind[FZ]
theorem AAw {E:Env} {cf Lq:A3->Cn} {L:A3} (hc:Ud (cf L) (Lq L)):∀(n m:Nat),n<=m->∀(c:Code) (st:St) (r:Out×St),IL E cf n L c st=some r->IL E Lq m L c st=some r:=by
 intro n
 induction n with
 | zero=>grind[IL]
 | succ n ih=>
  intro m hm c st r h;obtain⟨m,rfl⟩:∃m',m=m'+1:=⟨m-1,by omega⟩;have hm':n<=m:=by omega
  cases c with
  | skip=>exact h
  | ret=>exact h
  | exit id=>exact h
  | region id ops d=>
   cases d with
   | false=>
    simp only[IL] at h ⊢;split at h
    .rename_i h1
     simp only[qP hc _ _ (AN _) _ _ h1];exact h
    grind
   | true=>
    grind[IL,ZU]
  | seq a b=>
   grind[IL]
  | cond c a b=>
   grind[IL]
  | block id b=>
   grind[IL]
  | loop b=>
   grind[IL]
  | rangeFunc g ps a b=>
   simp only[IL] at h ⊢;split at h
   .split at h
    .split at h
     all_goals grind[PT,dy]
    omega
   omega
  | _=>assumption
theorem LZ {E:Env} {cf Lq:A3->Cn} {n m:Nat} (hm:n<=m) {fn:Func} {L:A3} (hc:Ud (cf L) (Lq L)) {args:List AV} {s:AM} {r:AV×AM} (h:JD E cf n fn L args s=some r):JD E Lq m fn L args s=some r:=by grind[JD,AAw]
theorem Ue {E:Env} {cf Lq:A3->Cn} {n m:Nat} (hm:n<=m) {f:FuncId} {fn:Func} (hc:∀L,Ud (cf L) (Lq L)) {args:List AV} {s:AM} {r:AV×AM} (h:IW E cf n f fn args s=some r):IW E Lq m f fn args s=some r:=by grind[IW,LZ]
theorem dz {E:Env} {cf Lq:A3->Cn} {n m:Nat} (hm:n<=m) {L:A3} {f:FuncId} {fn:Func} (hc:∀L,Ud (cf L) (Lq L)) {args:List AV} {s:AM} {r:AV×AM} (h:D4 E cf n L f fn args s=some r):D4 E Lq m L f fn args s=some r:=by
 unfold D4 at h ⊢;split at h
 .rename_i hl
  rw[if_pos hl]
  have wr:∀b:Bool,(bif b then IW E cf n f fn args s else
   match JD E cf n fn ⟨0,L.ro,L.rt,E.mu f,E.rr f,E.plan f⟩ args s with
   | some (v,s')=>M8 (L.rr f) s.bs.length v s'
   | none=>none)=some r->(bif b then IW E Lq m f fn args s else
   match JD E Lq m fn ⟨0,L.ro,L.rt,E.mu f,E.rr f,E.plan f⟩ args s with
   | some (v,s')=>M8 (L.rr f) s.bs.length v s'
   | none=>none)=some r:=by grind[Ue,LZ]
  cases hk:E.kind f with
  | esc=>
   grind[LZ]
  | rd=>
   grind[Ue,LZ]
  | im=>
   simp only[hk] at h ⊢;exact wr _ h
  | st=>
   simp only[hk] at h ⊢;exact wr _ h
 grind
theorem jM {E:Env}:∀(n m:Nat),n<=m->∀L,Ud (DG E n L) (DG E m L):=by
 intro n
 induction n with
 | zero=>intro m _ L f args s r h; grind[DG]
 | succ n ih=>
  intro m hm L f args s r h;obtain⟨m,rfl⟩:∃m',m=m'+1:=⟨m-1,by omega⟩
  grind[DG,OL,dz]
theorem A8.jW {E:Env} {n:Nat} {L:A3} {f:FuncId} {args:List AV} {s s':AM} {v:AV} (h:DG E n L f args s=some (v,s')):A8 E L f args s v s':=
 ⟨n,λm hm=>jM n m hm L f args s (v,s') h⟩
def AL (E:Env) (f:FuncId) (args:List AV) (Post:AV->Prop):Prop:=∃v,Post v/\∀L s,A8 E L f args s v s
def Fo:Nat->List AV->En
 | _,[]=>[]
 | i,v::vs=>(i,v)::Fo (i+1) vs
theorem XF:∀(i:Nat) (vs:List AV) (t:Nat) (v:AV),EC (Fo i vs) t=some v->i<=t/\initρ vs (t-i)=v
 | i,[],t,v,h=>by simp_all[Fo]
 | i,u::vs,t,v,h=>by
  simp only[Fo,EC] at h;cases hb:Nat.beq t i with
  | true=>
   simp_all[initρ]
  | false=>
   rw[hb] at h;obtain⟨h1,h2⟩:=XF (i+1) vs t v h;refine⟨by omega,?_⟩;have:t-i=(t-(i+1))+1:=by omega
   rw[this];exact h2
theorem jN (vs:List AV):G5 (EC (Fo 0 vs)) (initρ vs):=λt v h=>(XF 0 vs t v h).2
theorem O7 {E:Env} {L:A3} {fn:Func} {body:Code} {args:List AV} {s:AM} {QR:AV->AM->Prop} (hb:fn.body=some body) (h:Wp E L fn.ntmps fn.results.toList body [] (Fo 0 args) s QR) :
  ∃v s' n,(∀m,n<=m->JD E (DG E m) m fn L args s=some (v,s'))/\QR v s':=by
 obtain⟨o,st,⟨n,h1⟩,ho,vs,h2,h3⟩:=h _ (jN args);refine⟨JC vs,st.s,n,λm hm=>?_,h3⟩
 grind[JD]
section
variable {E:Env} {f:FuncId} {fn:Func} {body:Code} {args args':List AV}
def Cu (E:Env) (f:FuncId) (n0 ro rt:Nat):A3:=⟨n0,ro,rt,E.mu f,E.rr f,E.plan f⟩
theorem MT {L:A3} {s s':AM} {v:AV} {n:Nat} (hfn:E.P.funcs[f]?=some fn) (hc:E.clone f=false) (h:∀m,n<=m->D4 E (DG E m) m L f fn args s=some (v,s')):A8 E L f args s v s':=by
 refine⟨n+1,λm hm=>?_⟩;obtain⟨m,rfl⟩:∃m',m=m'+1:=⟨m-1,by omega⟩
 grind[DG]
def QP (Post:AV->Prop) (r:AV) (s:AM):Prop:=∃v,close s.bs 0 0 r=some v/\Post v
def QI (n m:Nat) (Post:AV->Prop) (r:AV) (s:AM):Prop:=∃v,close s.bs n m r=some v/\Post v
def QM (rr:Bool) (n:Nat) (Post:AV->AM->Prop) (r:AV) (s:AM):Prop:=∃v s',M8 rr n r s=some (v,s')/\Post v s'
theorem nV {Post:AV->Prop} (hb:fn.body=some body)
  (h:Wp E (Cu E f 0 0 0) fn.ntmps fn.results.toList body [] (Fo 0 args) ⟨[],[]⟩ (QP Post)) :
  ∃v n,Post v/\∀s m,n<=m->IW E (DG E m) m f fn args s=some (v,s):=by
 obtain⟨r,s',n,h1,v,h2,h3⟩:=O7 hb h;refine⟨v,n,h3,λs m hm=>?_⟩
 grind[IW,Cu]
theorem ADQ {Post:AV->Prop} (hfn:E.P.funcs[f]?=some fn) (hb:fn.body=some body) (hk:E.kind f=.rd) (hc:E.clone f=false) (hl:args.length<=fn.ntmps) (Ba:AU [] 0 0 args=some args')
  (h:Wp E (Cu E f 0 0 0) fn.ntmps fn.results.toList body [] (Fo 0 args') ⟨[],[]⟩ (QP Post)):AL E f args Post:=by
 obtain⟨v,n,h1,h2⟩:=nV hb h;refine⟨v,h1,λL s=>MT (n:=n) hfn hc λm hm=>?_⟩
 grind[D4]
theorem HI {Post:AV->Prop} (hfn:E.P.funcs[f]?=some fn) (hb:fn.body=some body) (hk:E.kind f=.im) (hc:E.clone f=false) (hl:args.length<=fn.ntmps) (hn:Bb args=true)
  (h:Wp E (Cu E f 0 0 0) fn.ntmps fn.results.toList body [] (Fo 0 args) ⟨[],[]⟩ (QP Post)):AL E f args Post:=by
 obtain⟨v,n,h1,h2⟩:=nV hb h;refine⟨v,h1,λL s=>MT (n:=n) hfn hc λm hm=>?_⟩
 grind[D4]
theorem ADR {L:A3} {s:AM} {Post:AV->AM->Prop} (hfn:E.P.funcs[f]?=some fn) (hb:fn.body=some body) (hk:E.kind f=.im) (hc:E.clone f=false) (hl:args.length<=fn.ntmps) (hn:Bb args=false)
  (h:Wp E (Cu E f 0 L.ro L.rt) fn.ntmps fn.results.toList body [] (Fo 0 args) s (QM (L.rr f) s.bs.length Post)) :
  ∃v s',Post v s'/\A8 E L f args s v s':=by
 obtain⟨r,s',n,h1,v,s'',h2,h3⟩:=O7 hb h;refine⟨v,s'',h3,MT (n:=n) hfn hc λm hm=>?_⟩
 grind[D4,Cu]
theorem AAx {L:A3} {s:AM} {Post:AV->AM->Prop} (hfn:E.P.funcs[f]?=some fn) (hb:fn.body=some body) (hk:E.kind f=.esc) (hc:E.clone f=false) (hl:args.length<=fn.ntmps)
  (h:Wp E (Cu E f L.n0 L.ro L.rt) fn.ntmps fn.results.toList body [] (Fo 0 args) s Post) :
  ∃v s',Post v s'/\A8 E L f args s v s':=by
 obtain⟨r,s',n,h1,h2⟩:=O7 hb h;refine⟨r,s',h2,MT (n:=n) hfn hc λm hm=>?_⟩
 grind[D4,Cu]
theorem AAy {s:AM} {Post:AV->Prop} (hfn:E.P.funcs[f]?=some fn) (hb:fn.body=some body) (hk:E.kind f=.rd) (hc:E.clone f=false) (hl:args.length<=fn.ntmps) (Ba:AU [] 0 0 args=none)
  (h:Wp E (Cu E f s.bs.length s.bs.length s.ts.length) fn.ntmps fn.results.toList body [] (Fo 0 args) s (QI s.bs.length s.ts.length Post)) :
  ∃v,Post v/\∀L,A8 E L f args s v s:=by
 obtain⟨r,s',n,h1,v,h2,h3⟩:=O7 hb h;refine⟨v,h3,λL=>MT (n:=n) hfn hc λm hm=>?_⟩
 grind[D4,Cu]
end
theorem mP {A B:Prop} (h:A) (e:A=B):B:=e ▸ h
theorem AG {E:Env} {L:A3} {f:FuncId} {args:List AV} {s:AM} {K:AV->AM->Prop} {Post:AV->Prop} (h:AL E f args Post) (hK:∀v,Post v->K v s):EK E L (.func (.func f) [] []) args s K:=by
 obtain⟨v,h1,h2⟩:=h;refine⟨v,s,?_,hK v h1⟩
 grind
theorem CY {E:Env} {L:A3} {f:FuncId} {args:List AV} {s:AM} {K:AV->AM->Prop} {Post:AV->AM->Prop} (h:∃v s',Post v s'/\A8 E L f args s v s') (hK:∀v s',Post v s'->K v s'):EK E L (.func (.func f) [] []) args s K:=by
 obtain⟨v,s',h1,h2⟩:=h;refine⟨v,s',?_,hK v s' h1⟩
 grind
end Go.Tel
