/-
  What a piece of code needs is enough; calls.
-/
import Derived.Test.YtpgfpakdnijngaaGreatDoorWvB
set_option linter.all false
namespace Go.Tel
theorem Cu.seq {E:Env} {L:A8} {a b:Code} {st GM st2:St} {o:Out} (h1:Cu E L a st .norm GM) (h2:Cu E L b GM o st2):Cu E L (.seq a b) st o st2:=by
 obtain⟨n1,h1⟩:=h1;obtain⟨n2,h2⟩:=h2;refine⟨n1+n2+1,λm k hm hk=>?_⟩;obtain⟨k,rfl⟩:∃k',k=k'+1:=⟨k-1,by omega⟩
 grind[LZ]
theorem Cu.AUY {E:Env} {L:A8} {a b:Code} {st GM:St} {o:Out} (h1:Cu E L a st o GM) (ho:o≠.norm):Cu E L (.seq a b) st o GM:=by
 obtain⟨n1,h1⟩:=h1;refine⟨n1+1,λm k hm hk=>?_⟩;obtain⟨k,rfl⟩:∃k',k=k'+1:=⟨k-1,by omega⟩
 grind[LZ]
theorem Cu.loop {E:Env} {L:A8} {b:Code} {st GM st2:St} {o:Out} (h1:Cu E L b st .norm GM) (h2:Cu E L (.loop b) GM o st2):Cu E L (.loop b) st o st2:=by
 obtain⟨n1,h1⟩:=h1;obtain⟨n2,h2⟩:=h2;refine⟨n1+n2+1,λm k hm hk=>?_⟩;obtain⟨k,rfl⟩:∃k',k=k'+1:=⟨k-1,by omega⟩
 grind[LZ]
theorem Cu.AIg {E:Env} {L:A8} {b:Code} {st GM:St} {o:Out} (h1:Cu E L b st o GM) (ho:o≠.norm):Cu E L (.loop b) st o GM:=by
 obtain⟨n1,h1⟩:=h1;refine⟨n1+1,λm k hm hk=>?_⟩;obtain⟨k,rfl⟩:∃k',k=k'+1:=⟨k-1,by omega⟩
 grind[LZ]
def ANE (id:Nat):Out->Out
 | .exit j=>bif Nat.beq j id then .norm else .exit j
 | o=>o
theorem Cu.block {E:Env} {L:A8} {id:Nat} {b:Code} {st GM:St} {o:Out} (h1:Cu E L b st o GM):Cu E L (.block id b) st (ANE id o) GM:=by
 obtain⟨n1,h1⟩:=h1;refine⟨n1+1,λm k hm hk=>?_⟩;obtain⟨k,rfl⟩:∃k',k=k'+1:=⟨k-1,by omega⟩;simp only[LZ,h1 m k (by omega) (by omega)];cases o with
 | exit j=>grind[ANE]
 | norm=>rfl
 | ret=>rfl
theorem Cu.simple {E:Env} {L:A8} {c:Code} {st GM:St} {o:Out} (h:∀cf k,LZ E cf (k+1) L c st=some (o,GM)):Cu E L c st o GM:=by
 refine⟨1,λm k hm hk=>?_⟩;obtain⟨k,rfl⟩:∃k',k=k'+1:=⟨k-1,by omega⟩
 grind
theorem Cu.cond {E:Env} {L:A8} {c:Operand} {a b:Code} {st GM:St} {o:Out} {t:Bool} (hc:Ag st.ρ c=.pv (.sc (.bool t))) (h:Cu E L (bif t then a else b) st o GM):Cu E L (.cond c a b) st o GM:=by
 obtain⟨n1,h1⟩:=h;refine⟨n1+1,λm k hm hk=>?_⟩;obtain⟨k,rfl⟩:∃k',k=k'+1:=⟨k-1,by omega⟩
 grind[LZ]
theorem Cu.region {E:Env} {L:A8} {id:Nat} {ops:Array Oper} {st GM:St} {n:Nat} (h:∀m,n<=m->IJ E L (Dz E m L) ops ops.toList st=some GM):Cu E L (.region id ops false) st .norm GM:=by
 refine⟨n+1,λm k hm hk=>?_⟩;obtain⟨k,rfl⟩:∃k',k=k'+1:=⟨k-1,by omega⟩
 grind[LZ]
theorem Cu.draws {E:Env} {L:A8} {id:Nat} {ops:Array Oper} {st GM:St} {n:Nat} {p:Bb} (hp:L.pl id=some p) (h:∀m,n<=m->XP E L (Dz E m L) p ops st=some GM):Cu E L (.region id ops true) st .norm GM:=by
 have hf:∃st0,JE E L ops p.cls p.first st=some st0:=by
  have:=h n (Aa n)
  grind[XP]
 obtain⟨st0,hf⟩:=hf;refine⟨n+1,λm k hm hk=>?_⟩;obtain⟨k,rfl⟩:∃k',k=k'+1:=⟨k-1,by omega⟩
 grind[LZ,rG,Jm]
theorem RF.ret {E:Env} {L:A8} {Q:Out->St->Prop} {st:St} (h:Q .ret st):∀ks,RF E L Q ks .ret st
 | []=>h
 | .seq b::ks=>RF.ret h ks
 | .blk id::ks=>RF.ret h ks
 | .loop b::ks=>RF.ret h ks
theorem HI.prune {lv:Nat->List Nat} {c:Code} {env:En} {ρ:Nat->AV} (h:HI (Ek env) ρ):HI (Ek (prune lv c env)) ρ:=by
 unfold Tel.prune;split
 .rename_i k hk
  have:∀l:List Nat,HI (Ek (l.filterMap λt=>match Ek env t with
    | some v=>some (t,v)
    | none=>none)) ρ:=by
   intro l
   induction l with
   | nil=>intro t v hv; simp_all
   | cons x l ih=>
    simp only[List.filterMap_cons];cases hx:Ek env x with
    | none=>omega
    | some u=>
     intro t v hv;simp only[Ek] at hv;cases hb:Nat.beq t x with
     | true=>
      rw[hb] at hv;simp at hv;rw[Bz hb,<-hv];exact h x u hx
     | false=>rw[hb] at hv; exact ih t v hv
  exact this (lv k)
 omega
theorem Nq {E:Env} {N:Nat} {lk:Lk} {ρ:Nat->AV} {s:AM} (hA:HI lk ρ):∀(rs:List ResultVar) (K:List AV->Prop),qN E lk s rs K->∃vs,Fb E ⟨N,ρ,s⟩ rs=some vs/\K vs
 | [],K,h=>⟨[],rfl,h⟩
 | .tmp t::rs,K,h=>by
  obtain⟨v,h1,h2⟩:=BN h;obtain⟨vs,h3,h4⟩:=Nq (N:=N) hA rs _ h2;exact⟨_,by simp only[Fb,MT,h3,hA t v h1],h4⟩
 | .cell a t::rs,K,h=>by
  obtain⟨v,h1,h⟩:=BN h;obtain⟨k,h2,h⟩:=BN h;obtain⟨u,h3,h⟩:=AIe h2 h;obtain⟨vs,h4,h5⟩:=Nq (N:=N) hA rs _ h;exact⟨_,by simp only[Fb,MT,h4,hA a v h1,h3],h5⟩
section
variable {E:Env} {L:A8} {N:Nat} {lv:Nat->List Nat} {ct:Nat->Bool} {rs:List ResultVar} {QR:AV->AM->Prop}
theorem jD {env:En} {ρ:Nat->AV} {s:AM} (hA:HI (Ek env) ρ) (h:qN E (Ek env) s rs λvs=>QR (KJ vs) s) {o:Out} (ho:∀id,o≠.exit id):Fin E rs QR o ⟨N,ρ,s⟩:=by
 obtain⟨vs,h1,h2⟩:=Nq (N:=N) hA rs _ h;exact⟨ho,vs,h1,h2⟩
theorem Ey:∀(ks:List Frame) (env:En) (s:AM) (ρ:Nat->AV),HI (Ek env) ρ ->
  (wUE E L N lv rs QR ks none env s->RF E L (Fin E rs QR) ks .norm ⟨N,ρ,s⟩)/\(∀j,wUE E L N lv rs QR ks (some j) env s->RF E L (Fin E rs QR) ks (.exit j) ⟨N,ρ,s⟩)
 | [],env,s,ρ,hA=>⟨λh=>jD hA h (λ_=>by simp),λj h=>h.elim⟩
 | .seq b::ks,env,s,ρ,hA=>by
  refine⟨λh=>?_,λj h=>?_⟩
  .have ret:qN E (Ek env) s rs (λvs=>QR (KJ vs) s)->∃o st',Cu E L .ret ⟨N,ρ,s⟩ o st'/\RF E L (Fin E rs QR) ks o st':=λh=>
    ⟨.ret,_,Cu.simple λ_ _=>rfl,RF.ret (jD hA h (λ_=>by simp)) ks⟩
   have skip:wUE E L N lv rs QR ks none env s->∃o st',Cu E L .skip ⟨N,ρ,s⟩ o st'/\RF E L (Fin E rs QR) ks o st':=λh=>
    ⟨.norm,_,Cu.simple λ_ _=>rfl,(Ey ks env s ρ hA).1 h⟩
   have ex:∀j,wUE E L N lv rs QR ks (some j) env s->∃o st',Cu E L (.exit j) ⟨N,ρ,s⟩ o st'/\RF E L (Fin E rs QR) ks o st':=λj h=>
    ⟨.exit j,_,Cu.simple λ_ _=>rfl,(Ey ks env s ρ hA).2 j h⟩
   have any:∀b,Wp E L N rs b ks (prune lv b env) s QR->∃o st',Cu E L b ⟨N,ρ,s⟩ o st'/\RF E L (Fin E rs QR) ks o st':=λb h=>h ρ hA.prune
   grind[RF]
  .exact(Ey ks env s ρ hA).2 j h
 | .blk id::ks,env,s,ρ,hA=>by
  refine⟨λh=>?_,λj h=>?_⟩
  .exact(Ey ks env s ρ hA).1 h
  .change (match Nat.beq j id with|true=>wUE E L N lv rs QR ks none env s|false=>wUE E L N lv rs QR ks (some j) env s) at h
   show(bif Nat.beq j id then RF E L (Fin E rs QR) ks .norm ⟨N,ρ,s⟩ else RF E L (Fin E rs QR) ks (.exit j) ⟨N,ρ,s⟩)
   cases hb:Nat.beq j id with
   | true=>rw[hb] at h; exact(Ey ks env s ρ hA).1 h
   | false=>rw[hb] at h; exact(Ey ks env s ρ hA).2 j h
 | .loop b::ks,env,s,ρ,hA=>by
  refine⟨λh=>?_,λj h=>?_⟩
  .exact h ρ hA.prune
  .exact(Ey ks env s ρ hA).2 j h
theorem Wp.seq {a b:Code} {ks:List Frame} {env:En} {s:AM} (h:Wp E L N rs a (.seq b::ks) env s QR):Wp E L N rs (.seq a b) ks env s QR:=by
 intro ρ hA;obtain⟨o,st,h1,h2⟩:=h ρ hA;cases o with
 | norm=>
  obtain⟨o,st',h3,h4⟩:=h2;exact⟨o,st',h1.seq h3,h4⟩
 | exit j=>exact⟨_,_,h1.AUY (by simp),h2⟩
 | ret=>exact⟨_,_,h1.AUY (by simp),h2⟩
theorem Wp.loop {b:Code} {ks:List Frame} {env:En} {s:AM} (h:Wp E L N rs b (.loop b::ks) env s QR):Wp E L N rs (.loop b) ks env s QR:=by
 intro ρ hA;obtain⟨o,st,h1,h2⟩:=h ρ hA;cases o with
 | norm=>
  obtain⟨o,st',h3,h4⟩:=h2;exact⟨o,st',h1.loop h3,h4⟩
 | exit j=>exact⟨_,_,h1.AIg (by simp),h2⟩
 | ret=>exact⟨_,_,h1.AIg (by simp),h2⟩
theorem Wp.block {id:Nat} {b:Code} {ks:List Frame} {env:En} {s:AM} (h:Wp E L N rs b (.blk id::ks) env s QR):Wp E L N rs (.block id b) ks env s QR:=by
 intro ρ hA;obtain⟨o,st,h1,h2⟩:=h ρ hA;refine⟨_,st,h1.block,?_⟩;cases o with
 | norm=>exact h2
 | ret=>exact h2
 | exit j=>
  grind[RF,ANE]
theorem wp_region {id:Nat} {ops:Array Oper} {env:En} {s:AM} {K:En->AM->Prop} (h:U6 E L N ops ops.toList env s K) (ρ:Nat->AV) (hA:HI (Ek env) ρ):∃env' ρ' s',Cu E L (.region id ops false) ⟨N,ρ,s⟩ .norm ⟨N,ρ',s'⟩/\HI (Ek env') ρ'/\K env' s':=by
 obtain⟨env',ρ',s',n,h1,h2,h3⟩:=jB _ _ (Aa _) _ _ ρ h hA;exact⟨env',ρ',s',Cu.region h1,h2,h3⟩
theorem dP {id:Nat} {ops:Array Oper} {env:En} {s:AM} {K:En->AM->Prop} (h:wO (L.pl id) λp=>ABd E L N p ops env s K) (ρ:Nat->AV) (hA:HI (Ek env) ρ):∃env' ρ' s',Cu E L (.region id ops true) ⟨N,ρ,s⟩ .norm ⟨N,ρ',s'⟩/\HI (Ek env') ρ'/\K env' s':=by
 obtain⟨p,hp,h⟩:=BN h;obtain⟨env',ρ',s',n,h1,h2,h3⟩:=jC h hA;exact⟨env',ρ',s',Cu.draws hp h1,h2,h3⟩
theorem Wv:∀(c:Code) (ks:List Frame) (env:En) (s:AM),wpc E L N lv ct rs QR c ks env s->Wp E L N rs c ks env s QR:=by
 intro c
 induction c with
 | skip=>exact λks env s h ρ hA=>⟨.norm,_,Cu.simple λ_ _=>rfl,(Ey ks env s ρ hA).1 h⟩
 | ret=>exact λks env s h ρ hA=>⟨.ret,_,Cu.simple λ_ _=>rfl,RF.ret (jD hA h (λ_=>by simp)) ks⟩
 | exit j=>exact λks env s h ρ hA=>⟨.exit j,_,Cu.simple λ_ _=>rfl,(Ey ks env s ρ hA).2 j h⟩
 | region id ops d=>
  intro ks env s h ρ hA;cases d with
  | false=>
   obtain⟨env',ρ',s',h1,h2,h3⟩:=wp_region (id:=id) h ρ hA;exact⟨.norm,_,h1,(Ey ks env' s' ρ' h2).1 h3⟩
  | true=>
   obtain⟨env',ρ',s',h1,h2,h3⟩:=dP h ρ hA;exact⟨.norm,_,h1,(Ey ks env' s' ρ' h2).1 h3⟩
 | seq a b wQ kG=>
  intro ks env s h
  have go:∀ks env s,(match AEA ct b with
     | true=>Wp E L N rs b ks (prune lv b env) s QR
     | false=>wpc E L N lv ct rs QR b ks env s)->Wp E L N rs b ks env s QR:=by
   intro ks env s h;cases hc:AEA ct b with
   | true=>
    rw[hc] at h;exact λρ hA=>h ρ hA.prune
   | false=>
    simp_all
  have gen:wpc E L N lv ct rs QR a (.seq b::ks) env s->Wp E L N rs (.seq a b) ks env s QR:=λh=>Wp.seq (wQ _ _ _ h)
  cases a with
  | region id ops d=>
   intro ρ hA;cases d with
   | false=>
    obtain⟨env',ρ',s',h1,h2,h3⟩:=wp_region (id:=id) h ρ hA;obtain⟨o,st,h4,h5⟩:=go _ _ _ h3 ρ' h2;exact⟨o,st,h1.seq h4,h5⟩
   | true=>
    obtain⟨env',ρ',s',h1,h2,h3⟩:=dP h ρ hA;obtain⟨o,st,h4,h5⟩:=go _ _ _ h3 ρ' h2;exact⟨o,st,h1.seq h4,h5⟩
  | _=>simp[*]
 | cond c a b wQ kG=>
  intro ks env s h ρ hA;obtain⟨cv,h1,h⟩:=BN h;unfold AO at h;split at h
  .rename_i t
   cases t with
   | true=>
    obtain⟨o,st,h3,h4⟩:=wQ _ _ _ (h.1 rfl) ρ hA;exact⟨o,st,Cu.cond (CR hA h1) h3,h4⟩
   | false=>
    obtain⟨o,st,h3,h4⟩:=kG _ _ _ (h.2 rfl) ρ hA;exact⟨o,st,Cu.cond (CR hA h1) h3,h4⟩
  simp_all
 | block id b ih=>simp_all[Wp.block]
 | loop b ih=>exact λks env s h ρ hA=>h ρ hA.prune
 | rangeFunc g ps a b _ _=>exact λks env s h ρ hA=>h ρ hA.prune
 | _=>simp
theorem qT {b:Code} {ks:List Frame} {env:En} {s:AM} (h:wpc E L N lv ct rs QR b (.loop b::ks) env s):Wp E L N rs (.loop b) ks env s QR:=Wp.loop (Wv _ _ _ _ h)
theorem ANF {A:Prop} (c:Code) (ks:List Frame) (env:En) (s:AM) (h:A) (e:A=wpc E L N lv ct rs QR c ks env s):Wp E L N rs c ks env s QR:=Wv c ks env s (e ▸ h)
theorem ANG {A:Prop} (b:Code) (ks:List Frame) (env:En) (s:AM) (h:A) (e:A=wpc E L N lv ct rs QR b (.loop b::ks) env s):Wp E L N rs (.loop b) ks env s QR:=qT (e ▸ h)
end
def UP (cf Lc:Cr):Prop:=∀f args s r,cf f args s=some r->Lc f args s=some r
theorem Ww {E:Env} {L:A8} {cf Lc:Cr} (hc:UP cf Lc) {ρ:Nat->AV} {s:AM} {o:Oper} {r:AV×AM} (h:M9 E L cf ρ s o=some r):M9 E L Lc ρ s o=some r:=by
 obtain⟨dst,op,type,pos,after,guard⟩:=o;cases op with
 | call c=>
  obtain⟨callee,args,ts⟩:=c;cases callee with
  | builtin b=>exact h
  | value f=>
   simp only[M9] at h ⊢;split at h
   .exact hc _ _ _ _ h
   omega
  | invoke x n=>assumption
 | _=>exact h
theorem jE {E:Env} {L:A8} {cf Lc:Cr} (hc:UP cf Lc) {st st':St} {o:Oper} (h:Mu E L cf st o=some st'):Mu E L Lc st o=some st':=by grind[Mu,Ww]
theorem qU {E:Env} {L:A8} {cf Lc:Cr} (hc:UP cf Lc) {ops:Array Oper}:∀(n:Nat) (l:List Oper),l.length<=n->∀(st st':St),IJ E L cf ops l st=some st'->IJ E L Lc ops l st=some st':=by
 intro n
 induction n with
 | zero=>
  intro l hl st st' h;have:l=[]:=jO.1 (by omega);subst this;exact h
 | succ n ih=>
  intro l hl st st' h;cases l with
  | nil=>exact h
  | cons o rest=>
   have hl':rest.length<=n:=by grind
   have one:(match E9 ops st.ρ o with
     | some true=>match Mu E L cf st o with
      | some st=>IJ E L cf ops rest st
      | none=>none
     | some false=>match KF st o.dst (.tuple []) with
      | some st=>IJ E L cf ops rest st
      | none=>none
     | none=>none)=some st'->(match E9 ops st.ρ o with
     | some true=>match Mu E L Lc st o with
      | some st=>IJ E L Lc ops rest st
      | none=>none
     | some false=>match KF st o.dst (.tuple []) with
      | some st=>IJ E L Lc ops rest st
      | none=>none
     | none=>none)=some st':=by
    intro h;split at h
    .grind[jE]
    .grind
    .omega
   match rest,hl',h,one with
   | [],hl',h,one=>
    rw[IJ] at h ⊢ <;> first|exact one h|simp
   | [o1],hl',h,one=>
    rw[IJ] at h ⊢ <;> first|exact one h|simp
   | o1::o2::rest',hl',h,one=>
    rw[IJ] at h ⊢;cases hk:fused o o1 o2 with
    | none=>rw[hk] at h; exact one h
    | some k=>
     simp only[hk] at h ⊢;cases h1:JC E L st.ρ st.s k with
     | some q=>
      grind
     | none=>
      simp only[h1] at h ⊢;exact one h
theorem qV {E:Env} {L:A8} {cf Lc:Cr} (hc:UP cf Lc) {ops:Array Oper} {ρ:Nat->AV} {s:AM} {o:Oper} {r:AV×AM} (h:NA E L cf ops ρ s o=some r):NA E L Lc ops ρ s o=some r:=by grind[NA,Ww]
theorem Hl {E:Env} {L:A8} {cf Lc:Cr} (hc:UP cf Lc) {ops:Array Oper} {cls:List dW}:∀(l:List Nat) (st:St) (acc:List AM) (r:St×List AM),HB E L cf ops cls l st acc=some r->HB E L Lc ops cls l st acc=some r
 | [],st,acc,r,h=>h
 | i::rest,st,acc,r,h=>by
  simp only[HB] at h ⊢;cases ho:ops[i]? with
  | none=>grind
  | some o=>
   cases Be:cls[i]? with
   | none=>grind
   | some c=>
    simp only[ho,Be] at h ⊢;cases c with
    | q ts=>
     simp only at h ⊢;cases h1:FA E L ops st.ρ st.s o with
     | none=>grind
     | some v=>
      simp only[h1] at h ⊢;cases h2:KF st o.dst v with
      | none=>grind
      | some GM=>
       simp only[h2] at h ⊢;exact Hl hc rest _ _ _ h
    | w k=>
     simp only at h ⊢;cases h1:NA E L cf ops st.ρ st.s o with
     | none=>grind
     | some v=>
      obtain⟨v,s⟩:=v;simp only[h1,qV hc h1] at h ⊢;cases h2:KF { st with s:=s } o.dst v with
      | none=>grind
      | some GM=>
       simp only[h2] at h ⊢;exact Hl hc rest _ _ _ h
    | fa k j x=>
     simp only at h ⊢;cases hj:ops[j]? with
     | none=>grind
     | some o1=>
      cases hx:ops[x]? with
      | none=>grind
      | some o2=>
       simp only[hj,hx] at h ⊢;cases hk:fused o o1 o2 with
       | none=>grind
       | some q=>
        simp only[hk] at h ⊢;cases h1:KH E L st.ρ st.s q with
        | none=>grind
        | some v=>
         obtain⟨v,s⟩:=v;simp only[h1] at h ⊢;cases h2:J2 st q v s with
         | none=>grind
         | some GM=>
          simp only[h2] at h ⊢;exact Hl hc rest _ _ _ h
    | fj=>exact Hl hc rest _ _ _ h
    | fx=>exact Hl hc rest _ _ _ h
    | h ts=>omega
theorem Y9 {E:Env} {L:A8} {cf Lc:Cr} (hc:UP cf Lc) {ops:Array Oper} {st st':St} {p:Option Bb} (h:Jm E L cf ops st p=some st'):Jm E L Lc ops st p=some st':=by
 cases p with
 | none=>assumption
 | some p=>
  grind[Jm,XP,Hl]
theorem ABg {E:Env} {cf Lc:A8->Cr} {L:A8} (hc:UP (cf L) (Lc L)):∀(n m:Nat),n<=m->∀(c:Code) (st:St) (r:Out×St),LZ E cf n L c st=some r->LZ E Lc m L c st=some r:=by
 intro n
 induction n with
 | zero=>grind[LZ]
 | succ n ih=>
  intro m hm c st r h;obtain⟨m,rfl⟩:∃m',m=m'+1:=⟨m-1,by omega⟩;have hm':n<=m:=by omega
  cases c with
  | skip=>exact h
  | ret=>exact h
  | exit id=>exact h
  | region id ops d=>
   cases d with
   | false=>
    simp only[LZ] at h ⊢;split at h
    .rename_i h1
     simp only[qU hc _ _ (Aa _) _ _ h1];exact h
    grind
   | true=>
    grind[LZ,Y9]
  | seq a b=>
   grind[LZ]
  | cond c a b=>
   grind[LZ]
  | block id b=>
   grind[LZ]
  | loop b=>
   grind[LZ]
  | rangeFunc g ps a b=>simp[LZ] at h
  | _=>assumption
theorem LK {E:Env} {cf Lc:A8->Cr} {n m:Nat} (hm:n<=m) {fn:Func} {L:A8} (hc:UP (cf L) (Lc L)) {args:List AV} {s:AM} {r:AV×AM} (h:JF E cf n fn L args s=some r):JF E Lc m fn L args s=some r:=by grind[JF,ABg]
theorem UQ {E:Env} {cf Lc:A8->Cr} {n m:Nat} (hm:n<=m) {f:FuncId} {fn:Func} (hc:∀L,UP (cf L) (Lc L)) {args:List AV} {s:AM} {r:AV×AM} (h:IW E cf n f fn args s=some r):IW E Lc m f fn args s=some r:=by grind[IW,LK]
theorem dQ {E:Env} {cf Lc:A8->Cr} {n m:Nat} (hm:n<=m) {L:A8} {f:FuncId} {fn:Func} (hc:∀L,UP (cf L) (Lc L)) {args:List AV} {s:AM} {r:AV×AM} (h:D5 E cf n L f fn args s=some r):D5 E Lc m L f fn args s=some r:=by
 unfold D5 at h ⊢;split at h
 .rename_i hl
  rw[if_pos hl]
  have wr:∀b:Bool,(bif b then IW E cf n f fn args s else
   match JF E cf n fn ⟨0,L.ro,L.rt,E.mu f,E.rr f,E.plan f⟩ args s with
   | some (v,s')=>HP (L.rr f) s.bs.length v s'
   | none=>none)=some r->(bif b then IW E Lc m f fn args s else
   match JF E Lc m fn ⟨0,L.ro,L.rt,E.mu f,E.rr f,E.plan f⟩ args s with
   | some (v,s')=>HP (L.rr f) s.bs.length v s'
   | none=>none)=some r:=by grind[UQ,LK]
  cases hk:E.kind f with
  | esc=>
   grind[LK]
  | rd=>
   grind[UQ,LK]
  | im=>
   simp only[hk] at h ⊢;exact wr _ h
  | st=>
   simp only[hk] at h ⊢;exact wr _ h
 grind
theorem jF {E:Env}:∀(n m:Nat),n<=m->∀L,UP (Dz E n L) (Dz E m L):=by
 intro n
 induction n with
 | zero=>intro m _ L f args s r h; grind[Dz]
 | succ n ih=>
  intro m hm L f args s r h;obtain⟨m,rfl⟩:∃m',m=m'+1:=⟨m-1,by omega⟩
  grind[Dz,OC,dQ]
theorem BD.je {E:Env} {n:Nat} {L:A8} {f:FuncId} {args:List AV} {s s':AM} {v:AV} (h:Dz E n L f args s=some (v,s')):BD E L f args s v s':=
 ⟨n,λm hm=>jF n m hm L f args s (v,s') h⟩
def AL (E:Env) (f:FuncId) (args:List AV) (Post:AV->Prop):Prop:=∃v,Post v/\∀L s,BD E L f args s v s
def FP:Nat->List AV->En
 | _,[]=>[]
 | i,v::vs=>(i,v)::FP (i+1) vs
theorem Wx:∀(i:Nat) (vs:List AV) (t:Nat) (v:AV),Ek (FP i vs) t=some v->i<=t/\initρ vs (t-i)=v
 | i,[],t,v,h=>by simp_all[FP]
 | i,u::vs,t,v,h=>by
  simp only[FP,Ek] at h;cases hb:Nat.beq t i with
  | true=>
   simp_all[initρ]
  | false=>
   rw[hb] at h;obtain⟨h1,h2⟩:=Wx (i+1) vs t v h;refine⟨by omega,?_⟩;have:t-i=(t-(i+1))+1:=by omega
   rw[this];exact h2
theorem jG (vs:List AV):HI (Ek (FP 0 vs)) (initρ vs):=λt v h=>(Wx 0 vs t v h).2
theorem Mf {E:Env} {L:A8} {fn:Func} {body:Code} {args:List AV} {s:AM} {QR:AV->AM->Prop} (hb:fn.body=some body) (h:Wp E L fn.ntmps fn.results.toList body [] (FP 0 args) s QR) :
  ∃v s' n,(∀m,n<=m->JF E (Dz E m) m fn L args s=some (v,s'))/\QR v s':=by
 obtain⟨o,st,⟨n,h1⟩,ho,vs,h2,h3⟩:=h _ (jG args);refine⟨KJ vs,st.s,n,λm hm=>?_,h3⟩
 grind[JF]
section
variable {E:Env} {f:FuncId} {fn:Func} {body:Code} {args args':List AV}
def Cv (E:Env) (f:FuncId) (n0 ro rt:Nat):A8:=⟨n0,ro,rt,E.mu f,E.rr f,E.plan f⟩
theorem Km {L:A8} {s s':AM} {v:AV} {n:Nat} (hfn:E.P.funcs[f]?=some fn) (hc:E.clone f=false) (h:∀m,n<=m->D5 E (Dz E m) m L f fn args s=some (v,s')):BD E L f args s v s':=by
 refine⟨n+1,λm hm=>?_⟩;obtain⟨m,rfl⟩:∃m',m=m'+1:=⟨m-1,by omega⟩
 grind[Dz]
def QP (Post:AV->Prop) (r:AV) (s:AM):Prop:=∃v,close s.bs 0 0 r=some v/\Post v
def QI (n m:Nat) (Post:AV->Prop) (r:AV) (s:AM):Prop:=∃v,close s.bs n m r=some v/\Post v
def QM (rr:Bool) (n:Nat) (Post:AV->AM->Prop) (r:AV) (s:AM):Prop:=∃v s',HP rr n r s=some (v,s')/\Post v s'
theorem nJ {Post:AV->Prop} (hb:fn.body=some body)
  (h:Wp E (Cv E f 0 0 0) fn.ntmps fn.results.toList body [] (FP 0 args) ⟨[],[]⟩ (QP Post)) :
  ∃v n,Post v/\∀s m,n<=m->IW E (Dz E m) m f fn args s=some (v,s):=by
 obtain⟨r,s',n,h1,v,h2,h3⟩:=Mf hb h;refine⟨v,n,h3,λs m hm=>?_⟩
 grind[IW,Cv]
theorem AEB {Post:AV->Prop} (hfn:E.P.funcs[f]?=some fn) (hb:fn.body=some body) (hk:E.kind f=.rd) (hc:E.clone f=false) (hl:args.length<=fn.ntmps) (Be:AY [] 0 0 args=some args')
  (h:Wp E (Cv E f 0 0 0) fn.ntmps fn.results.toList body [] (FP 0 args') ⟨[],[]⟩ (QP Post)):AL E f args Post:=by
 obtain⟨v,n,h1,h2⟩:=nJ hb h;refine⟨v,h1,λL s=>Km (n:=n) hfn hc λm hm=>?_⟩
 grind[D5]
theorem HH {Post:AV->Prop} (hfn:E.P.funcs[f]?=some fn) (hb:fn.body=some body) (hk:E.kind f=.im) (hc:E.clone f=false) (hl:args.length<=fn.ntmps) (hn:Bi args=true)
  (h:Wp E (Cv E f 0 0 0) fn.ntmps fn.results.toList body [] (FP 0 args) ⟨[],[]⟩ (QP Post)):AL E f args Post:=by
 obtain⟨v,n,h1,h2⟩:=nJ hb h;refine⟨v,h1,λL s=>Km (n:=n) hfn hc λm hm=>?_⟩
 grind[D5]
theorem AEC {L:A8} {s:AM} {Post:AV->AM->Prop} (hfn:E.P.funcs[f]?=some fn) (hb:fn.body=some body) (hk:E.kind f=.im) (hc:E.clone f=false) (hl:args.length<=fn.ntmps) (hn:Bi args=false)
  (h:Wp E (Cv E f 0 L.ro L.rt) fn.ntmps fn.results.toList body [] (FP 0 args) s (QM (L.rr f) s.bs.length Post)) :
  ∃v s',Post v s'/\BD E L f args s v s':=by
 obtain⟨r,s',n,h1,v,s'',h2,h3⟩:=Mf hb h;refine⟨v,s'',h3,Km (n:=n) hfn hc λm hm=>?_⟩
 grind[D5,Cv]
theorem AD0 {L:A8} {s:AM} {Post:AV->AM->Prop} (hfn:E.P.funcs[f]?=some fn) (hb:fn.body=some body) (hk:E.kind f=.st) (hc:E.clone f=false) (hl:args.length<=fn.ntmps)
  (h:Wp E (Cv E f 0 L.ro L.rt) fn.ntmps fn.results.toList body [] (FP 0 args) s (QM (L.rr f) s.bs.length Post)) :
  ∃v s',Post v s'/\BD E L f args s v s':=by
 obtain⟨r,s',n,h1,v,s'',h2,h3⟩:=Mf hb h;refine⟨v,s'',h3,Km (n:=n) hfn hc λm hm=>?_⟩
 grind[D5,Cv]
theorem ABh {L:A8} {s:AM} {Post:AV->AM->Prop} (hfn:E.P.funcs[f]?=some fn) (hb:fn.body=some body) (hk:E.kind f=.esc) (hc:E.clone f=false) (hl:args.length<=fn.ntmps)
  (h:Wp E (Cv E f L.n0 L.ro L.rt) fn.ntmps fn.results.toList body [] (FP 0 args) s Post) :
  ∃v s',Post v s'/\BD E L f args s v s':=by
 obtain⟨r,s',n,h1,h2⟩:=Mf hb h;refine⟨r,s',h2,Km (n:=n) hfn hc λm hm=>?_⟩
 grind[D5,Cv]
theorem ABi {s:AM} {Post:AV->Prop} (hfn:E.P.funcs[f]?=some fn) (hb:fn.body=some body) (hk:E.kind f=.rd) (hc:E.clone f=false) (hl:args.length<=fn.ntmps) (Be:AY [] 0 0 args=none)
  (h:Wp E (Cv E f s.bs.length s.bs.length s.ts.length) fn.ntmps fn.results.toList body [] (FP 0 args) s (QI s.bs.length s.ts.length Post)) :
  ∃v,Post v/\∀L,BD E L f args s v s:=by
 obtain⟨r,s',n,h1,v,h2,h3⟩:=Mf hb h;refine⟨v,h3,λL=>Km (n:=n) hfn hc λm hm=>?_⟩
 grind[D5,Cv]
end
theorem nC {A B:Prop} (h:A) (e:A=B):B:=e ▸ h
theorem AD {E:Env} {L:A8} {f:FuncId} {args:List AV} {s:AM} {K:AV->AM->Prop} {Post:AV->Prop} (h:AL E f args Post) (hK:∀v,Post v->K v s):E3 E L (.func (.func f) [] []) args s K:=by
 obtain⟨v,h1,h2⟩:=h;refine⟨v,s,?_,hK v h1⟩
 grind
theorem Ck {E:Env} {L:A8} {f:FuncId} {args:List AV} {s:AM} {K:AV->AM->Prop} {Post:AV->AM->Prop} (h:∃v s',Post v s'/\BD E L f args s v s') (hK:∀v s',Post v s'->K v s'):E3 E L (.func (.func f) [] []) args s K:=by
 obtain⟨v,s',h1,h2⟩:=h;refine⟨v,s',?_,hK v s' h1⟩
 grind
end Go.Tel
