/-
  What a piece of code needs is enough; calls.
-/
import Derived.Test.YtpgfpakdnijngaaGreatDoorWvB
set_option linter.all false
namespace Go.Tel
theorem C0.seq {E:Env} {L:BI} {a b:Code} {st Gf st2:St} {o:Out} (h1:C0 E L a st .norm Gf) (h2:C0 E L b Gf o st2):C0 E L (.seq a b) st o st2:=by
 obtain⟨n1,h1⟩:=h1;obtain⟨n2,h2⟩:=h2;refine⟨n1+n2+1,λm k hm hk=>?_⟩;obtain⟨k,rfl⟩:∃k',k=k'+1:=⟨k-1,AA⟩
 grind[Mc]
theorem C0.AXP {E:Env} {L:BI} {a b:Code} {st Gf:St} {o:Out} (h1:C0 E L a st o Gf) (ho:o≠.norm):C0 E L (.seq a b) st o Gf:=by
 obtain⟨n1,h1⟩:=h1;refine⟨n1+1,λm k hm hk=>?_⟩;obtain⟨k,rfl⟩:∃k',k=k'+1:=⟨k-1,AA⟩
 grind[Mc]
theorem C0.loop {E:Env} {L:BI} {b:Code} {st Gf st2:St} {o:Out} (h1:C0 E L b st .norm Gf) (h2:C0 E L (.loop b) Gf o st2):C0 E L (.loop b) st o st2:=by
 obtain⟨n1,h1⟩:=h1;obtain⟨n2,h2⟩:=h2;refine⟨n1+n2+1,λm k hm hk=>?_⟩;obtain⟨k,rfl⟩:∃k',k=k'+1:=⟨k-1,AA⟩
 grind[Mc]
theorem C0.AGc {E:Env} {L:BI} {b:Code} {st Gf:St} {o:Out} (h1:C0 E L b st o Gf) (ho:o≠.norm):C0 E L (.loop b) st o Gf:=by
 obtain⟨n1,h1⟩:=h1;refine⟨n1+1,λm k hm hk=>?_⟩;obtain⟨k,rfl⟩:∃k',k=k'+1:=⟨k-1,AA⟩
 grind[Mc]
def ANc (id:Nat):Out->Out
 | .exit j=>bif Nat.beq j id then .norm else .exit j
 | o=>o
theorem C0.block {E:Env} {L:BI} {id:Nat} {b:Code} {st Gf:St} {o:Out} (h1:C0 E L b st o Gf):C0 E L (.block id b) st (ANc id o) Gf:=by
 obtain⟨n1,h1⟩:=h1;refine⟨n1+1,λm k hm hk=>?_⟩;obtain⟨k,rfl⟩:∃k',k=k'+1:=⟨k-1,AA⟩;simp only[Mc,h1 m k AA AA];cases o with
 | exit j=>grind[ANc]
 | norm=>rfl
 | ret=>rfl
theorem C0.simple {E:Env} {L:BI} {c:Code} {st Gf:St} {o:Out} (h:∀cf k,Mc E cf (k+1) L c st=some (o,Gf)):C0 E L c st o Gf:=by
 refine⟨1,λm k hm hk=>?_⟩;obtain⟨k,rfl⟩:∃k',k=k'+1:=⟨k-1,AA⟩
 grind
theorem C0.cond {E:Env} {L:BI} {c:Operand} {a b:Code} {st Gf:St} {o:Out} {t:Bool} (hc:Am st.U c=.pv (.sc (.bool t))) (h:C0 E L (bif t then a else b) st o Gf):C0 E L (.cond c a b) st o Gf:=by
 obtain⟨n1,h1⟩:=h;refine⟨n1+1,λm k hm hk=>?_⟩;obtain⟨k,rfl⟩:∃k',k=k'+1:=⟨k-1,AA⟩
 grind[Mc]
theorem C0.region {E:Env} {L:BI} {id:Nat} {ops:Array Oper} {st Gf:St} {n:Nat} (h:∀m,n<=m->I4 E L (Dw E m L) ops ops.toList st=some Gf):C0 E L (.region id ops false) st .norm Gf:=by
 refine⟨n+1,λm k hm hk=>?_⟩;obtain⟨k,rfl⟩:∃k',k=k'+1:=⟨k-1,AA⟩
 grind[Mc]
theorem C0.draws {E:Env} {L:BI} {id:Nat} {ops:Array Oper} {st Gf:St} {n:Nat} {p:Bl} (hp:L.pl id=some p) (h:∀m,n<=m->ZQ E L (Dw E m L) p ops st=some Gf):C0 E L (.region id ops true) st .norm Gf:=by
 have hf:∃st0,Jn E L ops p.cls p.first st=some st0:=by
  have:=h n (AY n)
  grind[ZQ]
 obtain⟨st0,hf⟩:=hf;refine⟨n+1,λm k hm hk=>?_⟩;obtain⟨k,rfl⟩:∃k',k=k'+1:=⟨k-1,AA⟩
 grind[Mc,uH,KW]
theorem S0.ret {E:Env} {L:BI} {Q:Out->St->Prop} {st:St} (h:Q .ret st):∀ks,S0 E L Q ks .ret st
 | []=>h
 | .seq b::ks=>S0.ret h ks
 | .blk id::ks=>S0.ret h ks
 | .loop b::ks=>S0.ret h ks
theorem Hs.prune {lv:Nat->List Nat} {c:Code} {env:En} {U:Nat->AV} (h:Hs (EH env) U):Hs (EH (prune lv c env)) U:=by
 unfold Tel.prune;split
 .rename_i k hk
  have:∀l:List Nat,Hs (EH (l.filterMap λt=>match EH env t with
    | some v=>some (t,v)
    | none=>none)) U:=by
   intro l
   induction l with
   | nil=>intro t v hv; simp_all
   | cons x l ih=>
    simp only[List.filterMap_cons];cases hx:EH env x with
    | none=>omega
    | some u=>
     intro t v hv;simp only[EH] at hv;cases hb:Nat.beq t x with
     | true=>
      rw[hb] at hv;simp at hv;rw[B9 hb,<-hv];exact h x u hx
     | false=>rw[hb] at hv; exact ih t v hv
  exact this (lv k)
 omega
theorem O5 {E:Env} {N:Nat} {lk:Lk} {U:Nat->AV} {s:AQ} (hA:Hs lk U):∀(rs:List ResultVar) (K:List AV->Prop),tB E lk s rs K->∃vs,F0 E ⟨N,U,s⟩ rs=some vs/\K vs
 | [],K,h=>⟨[],rfl,h⟩
 | .tmp t::rs,K,h=>by
  obtain⟨v,h1,h2⟩:=BW h;obtain⟨vs,h3,h4⟩:=O5 (N:=N) hA rs _ h2;exact⟨_,by simp only[F0,Nj,h3,hA t v h1],h4⟩
 | .cell a t::rs,K,h=>by
  obtain⟨v,h1,h⟩:=BW h;obtain⟨k,h2,h⟩:=BW h;obtain⟨u,h3,h⟩:=AGb h2 h;obtain⟨vs,h4,h5⟩:=O5 (N:=N) hA rs _ h;exact⟨_,by simp only[F0,Nj,h4,hA a v h1,h3],h5⟩
section
variable {E:Env} {L:BI} {N:Nat} {lv:Nat->List Nat} {ct:Nat->Bool} {rs:List ResultVar} {QR:AV->AQ->Prop}
theorem lH {env:En} {U:Nat->AV} {s:AQ} (hA:Hs (EH env) U) (h:tB E (EH env) s rs λvs=>QR (JB vs) s) {o:Out} (ho:∀id,o≠.exit id):Fin E rs QR o ⟨N,U,s⟩:=by
 obtain⟨vs,h1,h2⟩:=O5 (N:=N) hA rs _ h;exact⟨ho,vs,h1,h2⟩
theorem FJ:∀(ks:List Frame) (env:En) (s:AQ) (U:Nat->AV),Hs (EH env) U ->
  (wUE E L N lv rs QR ks none env s->S0 E L (Fin E rs QR) ks .norm ⟨N,U,s⟩)/\(∀j,wUE E L N lv rs QR ks (some j) env s->S0 E L (Fin E rs QR) ks (.exit j) ⟨N,U,s⟩)
 | [],env,s,U,hA=>⟨λh=>lH hA h (λ_=>by simp),λj h=>h.elim⟩
 | .seq b::ks,env,s,U,hA=>by
  refine⟨λh=>?_,λj h=>?_⟩
  .have ret:tB E (EH env) s rs (λvs=>QR (JB vs) s)->∃o st',C0 E L .ret ⟨N,U,s⟩ o st'/\S0 E L (Fin E rs QR) ks o st':=λh=>
    ⟨.ret,_,C0.simple λ_ _=>rfl,S0.ret (lH hA h (λ_=>by simp)) ks⟩
   have skip:wUE E L N lv rs QR ks none env s->∃o st',C0 E L .skip ⟨N,U,s⟩ o st'/\S0 E L (Fin E rs QR) ks o st':=λh=>
    ⟨.norm,_,C0.simple λ_ _=>rfl,(FJ ks env s U hA).1 h⟩
   have ex:∀j,wUE E L N lv rs QR ks (some j) env s->∃o st',C0 E L (.exit j) ⟨N,U,s⟩ o st'/\S0 E L (Fin E rs QR) ks o st':=λj h=>
    ⟨.exit j,_,C0.simple λ_ _=>rfl,(FJ ks env s U hA).2 j h⟩
   have any:∀b,Wp E L N rs b ks (prune lv b env) s QR->∃o st',C0 E L b ⟨N,U,s⟩ o st'/\S0 E L (Fin E rs QR) ks o st':=λb h=>h U hA.prune
   grind[S0]
  .exact(FJ ks env s U hA).2 j h
 | .blk id::ks,env,s,U,hA=>by
  refine⟨λh=>?_,λj h=>?_⟩
  .exact(FJ ks env s U hA).1 h
  .change (match Nat.beq j id with|true=>wUE E L N lv rs QR ks none env s|false=>wUE E L N lv rs QR ks (some j) env s) at h
   show(bif Nat.beq j id then S0 E L (Fin E rs QR) ks .norm ⟨N,U,s⟩ else S0 E L (Fin E rs QR) ks (.exit j) ⟨N,U,s⟩)
   cases hb:Nat.beq j id with
   | true=>rw[hb] at h; exact(FJ ks env s U hA).1 h
   | false=>rw[hb] at h; exact(FJ ks env s U hA).2 j h
 | .loop b::ks,env,s,U,hA=>by
  refine⟨λh=>?_,λj h=>?_⟩
  .exact h U hA.prune
  .exact(FJ ks env s U hA).2 j h
theorem Wp.seq {a b:Code} {ks:List Frame} {env:En} {s:AQ} (h:Wp E L N rs a (.seq b::ks) env s QR):Wp E L N rs (.seq a b) ks env s QR:=by
 intro U hA;obtain⟨o,st,h1,h2⟩:=h U hA;cases o with
 | norm=>
  obtain⟨o,st',h3,h4⟩:=h2;exact⟨o,st',h1.seq h3,h4⟩
 | exit j=>exact⟨_,_,h1.AXP AD,h2⟩
 | ret=>exact⟨_,_,h1.AXP AD,h2⟩
theorem Wp.loop {b:Code} {ks:List Frame} {env:En} {s:AQ} (h:Wp E L N rs b (.loop b::ks) env s QR):Wp E L N rs (.loop b) ks env s QR:=by
 intro U hA;obtain⟨o,st,h1,h2⟩:=h U hA;cases o with
 | norm=>
  obtain⟨o,st',h3,h4⟩:=h2;exact⟨o,st',h1.loop h3,h4⟩
 | exit j=>exact⟨_,_,h1.AGc AD,h2⟩
 | ret=>exact⟨_,_,h1.AGc AD,h2⟩
theorem Wp.block {id:Nat} {b:Code} {ks:List Frame} {env:En} {s:AQ} (h:Wp E L N rs b (.blk id::ks) env s QR):Wp E L N rs (.block id b) ks env s QR:=by
 intro U hA;obtain⟨o,st,h1,h2⟩:=h U hA;refine⟨_,st,h1.block,?_⟩;cases o with
 | norm=>exact h2
 | ret=>exact h2
 | exit j=>
  grind[S0,ANc]
theorem wp_region {id:Nat} {ops:Array Oper} {env:En} {s:AQ} {K:En->AQ->Prop} (h:XF E L N ops ops.toList env s K) (U:Nat->AV) (hA:Hs (EH env) U):∃env' U' s',C0 E L (.region id ops false) ⟨N,U,s⟩ .norm ⟨N,U',s'⟩/\Hs (EH env') U'/\K env' s':=by
 obtain⟨env',U',s',n,h1,h2,h3⟩:=lF _ _ (AY _) _ _ U h hA;exact⟨env',U',s',C0.region h1,h2,h3⟩
theorem iC {id:Nat} {ops:Array Oper} {env:En} {s:AQ} {K:En->AQ->Prop} (h:wO (L.pl id) λp=>AAl E L N p ops env s K) (U:Nat->AV) (hA:Hs (EH env) U):∃env' U' s',C0 E L (.region id ops true) ⟨N,U,s⟩ .norm ⟨N,U',s'⟩/\Hs (EH env') U'/\K env' s':=by
 obtain⟨p,hp,h⟩:=BW h;obtain⟨env',U',s',n,h1,h2,h3⟩:=lG h hA;exact⟨env',U',s',C0.draws hp h1,h2,h3⟩
theorem Y2:∀(c:Code) (ks:List Frame) (env:En) (s:AQ),wpc E L N lv ct rs QR c ks env s->Wp E L N rs c ks env s QR:=by
 intro c
 induction c with
 | skip=>exact λks env s h U hA=>⟨.norm,_,C0.simple λ_ _=>rfl,(FJ ks env s U hA).1 h⟩
 | ret=>exact λks env s h U hA=>⟨.ret,_,C0.simple λ_ _=>rfl,S0.ret (lH hA h (λ_=>by simp)) ks⟩
 | exit j=>exact λks env s h U hA=>⟨.exit j,_,C0.simple λ_ _=>rfl,(FJ ks env s U hA).2 j h⟩
 | region id ops d=>
  intro ks env s h U hA;cases d with
  | false=>
   obtain⟨env',U',s',h1,h2,h3⟩:=wp_region (id:=id) h U hA;exact⟨.norm,_,h1,(FJ ks env' s' U' h2).1 h3⟩
  | true=>
   obtain⟨env',U',s',h1,h2,h3⟩:=iC h U hA;exact⟨.norm,_,h1,(FJ ks env' s' U' h2).1 h3⟩
 | seq a b j4 aC=>
  intro ks env s h
  have go:∀ks env s,(match tC ct b with
     | true=>Wp E L N rs b ks (prune lv b env) s QR
     | false=>wpc E L N lv ct rs QR b ks env s)->Wp E L N rs b ks env s QR:=by
   intro ks env s h;cases hc:tC ct b with
   | true=>
    rw[hc] at h;exact λU hA=>h U hA.prune
   | false=>
    simp_all
  have gen:wpc E L N lv ct rs QR a (.seq b::ks) env s->Wp E L N rs (.seq a b) ks env s QR:=λh=>Wp.seq (j4 _ _ _ h)
  cases a with
  | region id ops d=>
   intro U hA;cases d with
   | false=>
    obtain⟨env',U',s',h1,h2,h3⟩:=wp_region (id:=id) h U hA;obtain⟨o,st,h4,h5⟩:=go _ _ _ h3 U' h2;exact⟨o,st,h1.seq h4,h5⟩
   | true=>
    obtain⟨env',U',s',h1,h2,h3⟩:=iC h U hA;obtain⟨o,st,h4,h5⟩:=go _ _ _ h3 U' h2;exact⟨o,st,h1.seq h4,h5⟩
  | _=>simp[*]
 | cond c a b j4 aC=>
  intro ks env s h U hA;obtain⟨cv,h1,h⟩:=BW h;unfold Dc at h;split at h
  .rename_i t
   cases t with
   | true=>
    obtain⟨o,st,h3,h4⟩:=j4 _ _ _ (h.1 rfl) U hA;exact⟨o,st,C0.cond (CW hA h1) h3,h4⟩
   | false=>
    obtain⟨o,st,h3,h4⟩:=aC _ _ _ (h.2 rfl) U hA;exact⟨o,st,C0.cond (CW hA h1) h3,h4⟩
  simp_all
 | block id b ih=>simp_all[Wp.block]
 | loop b ih=>exact λks env s h U hA=>h U hA.prune
 | rangeFunc g ps a b _ _=>exact λks env s h U hA=>h U hA.prune
 | _=>simp
theorem tH {b:Code} {ks:List Frame} {env:En} {s:AQ} (h:wpc E L N lv ct rs QR b (.loop b::ks) env s):Wp E L N rs (.loop b) ks env s QR:=Wp.loop (Y2 _ _ _ _ h)
end
def WM (cf Mf:Cu):Prop:=∀f args s r,cf f args s=some r->Mf f args s=some r
theorem Y3 {E:Env} {L:BI} {cf Mf:Cu} (hc:WM cf Mf) {U:Nat->AV} {s:AQ} {o:Oper} {r:AV×AQ} (h:OQ E L cf U s o=some r):OQ E L Mf U s o=some r:=by
 obtain⟨dst,op,type,pos,after,guard⟩:=o;cases op with
 | call c=>
  obtain⟨callee,args,ts⟩:=c;cases callee with
  | builtin b=>exact h
  | value f=>
   simp only[OQ] at h ⊢;split at h
   .exact hc _ _ _ _ h
   omega
  | invoke x n=>assumption
 | _=>exact h
theorem lI {E:Env} {L:BI} {cf Mf:Cu} (hc:WM cf Mf) {st st':St} {o:Oper} (h:N8 E L cf st o=some st'):N8 E L Mf st o=some st':=by grind[N8,Y3]
theorem tI {E:Env} {L:BI} {cf Mf:Cu} (hc:WM cf Mf) {ops:Array Oper}:∀(n:Nat) (l:List Oper),l.length<=n->∀(st st':St),I4 E L cf ops l st=some st'->I4 E L Mf ops l st=some st':=by
 intro n
 induction n with
 | zero=>
  intro l hl st st' h;have:l=[]:=ZJ.1 AA;subst this;exact h
 | succ n ih=>
  intro l hl st st' h;cases l with
  | nil=>exact h
  | cons o rest=>
   have hl':rest.length<=n:=AB
   have one:(match FT ops st.U o with
     | some true=>match N8 E L cf st o with
      | some st=>I4 E L cf ops rest st
      | none=>none
     | some false=>match K7 st o.dst (.tuple []) with
      | some st=>I4 E L cf ops rest st
      | none=>none
     | none=>none)=some st'->(match FT ops st.U o with
     | some true=>match N8 E L Mf st o with
      | some st=>I4 E L Mf ops rest st
      | none=>none
     | some false=>match K7 st o.dst (.tuple []) with
      | some st=>I4 E L Mf ops rest st
      | none=>none
     | none=>none)=some st':=by
    intro h;split at h
    .grind[lI]
    .grind
    .omega
   match rest,hl',h,one with
   | [],hl',h,one=>
    rw[I4] at h ⊢ <;> first|exact one h|simp
   | [o1],hl',h,one=>
    rw[I4] at h ⊢ <;> first|exact one h|simp
   | o1::o2::rest',hl',h,one=>
    rw[I4] at h ⊢;cases hk:fused o o1 o2 with
    | none=>rw[hk] at h; exact one h
    | some k=>
     simp only[hk] at h ⊢;cases h1:Jl E L st.U st.s k with
     | some q=>
      grind
     | none=>
      simp only[h1] at h ⊢;exact one h
theorem tJ {E:Env} {L:BI} {cf Mf:Cu} (hc:WM cf Mf) {ops:Array Oper} {U:Nat->AV} {s:AQ} {o:Oper} {r:AV×AQ} (h:OS E L cf ops U s o=some r):OS E L Mf ops U s o=some r:=by grind[OS,Y3]
theorem IV {E:Env} {L:BI} {cf Mf:Cu} (hc:WM cf Mf) {ops:Array Oper} {cls:List bU}:∀(l:List Nat) (st:St) (acc:List AQ) (r:St×List AQ),Hf E L cf ops cls l st acc=some r->Hf E L Mf ops cls l st acc=some r
 | [],st,acc,r,h=>h
 | i::rest,st,acc,r,h=>by
  simp only[Hf] at h ⊢;cases ho:ops[i]? with
  | none=>grind
  | some o=>
   cases E6:cls[i]? with
   | none=>grind
   | some c=>
    simp only[ho,E6] at h ⊢;cases c with
    | q ts=>
     simp only at h ⊢;cases h1:FU E L ops st.U st.s o with
     | none=>grind
     | some v=>
      simp only[h1] at h ⊢;cases h2:K7 st o.dst v with
      | none=>grind
      | some Gf=>
       simp only[h2] at h ⊢;exact IV hc rest _ _ _ h
    | w k=>
     simp only at h ⊢;cases h1:OS E L cf ops st.U st.s o with
     | none=>grind
     | some v=>
      obtain⟨v,s⟩:=v;simp only[h1,tJ hc h1] at h ⊢;cases h2:K7 { st with s:=s } o.dst v with
      | none=>grind
      | some Gf=>
       simp only[h2] at h ⊢;exact IV hc rest _ _ _ h
    | fa k j x=>
     simp only at h ⊢;cases hj:ops[j]? with
     | none=>grind
     | some o1=>
      cases hx:ops[x]? with
      | none=>grind
      | some o2=>
       simp only[hj,hx] at h ⊢;cases hk:fused o o1 o2 with
       | none=>grind
       | some q=>
        simp only[hk] at h ⊢;cases h1:K9 E L st.U st.s q with
        | none=>grind
        | some v=>
         obtain⟨v,s⟩:=v;simp only[h1] at h ⊢;cases h2:Ks st q v s with
         | none=>grind
         | some Gf=>
          simp only[h2] at h ⊢;exact IV hc rest _ _ _ h
    | fj=>exact IV hc rest _ _ _ h
    | fx=>exact IV hc rest _ _ _ h
    | h ts=>omega
theorem bS {E:Env} {L:BI} {cf Mf:Cu} (hc:WM cf Mf) {ops:Array Oper} {st st':St} {p:Option Bl} (h:KW E L cf ops st p=some st'):KW E L Mf ops st p=some st':=by
 cases p with
 | none=>assumption
 | some p=>
  grind[KW,ZQ,IV]
theorem AAo {E:Env} {cf Mf:BI->Cu} {L:BI} (hc:WM (cf L) (Mf L)):∀(n m:Nat),n<=m->∀(c:Code) (st:St) (r:Out×St),Mc E cf n L c st=some r->Mc E Mf m L c st=some r:=by
 intro n
 induction n with
 | zero=>grind[Mc]
 | succ n ih=>
  intro m hm c st r h;obtain⟨m,rfl⟩:∃m',m=m'+1:=⟨m-1,AA⟩;have hm':n<=m:=AA;cases c with
  | skip=>exact h
  | ret=>exact h
  | exit id=>exact h
  | region id ops d=>
   cases d with
   | false=>
    simp only[Mc] at h ⊢;split at h
    .rename_i h1
     simp only[tI hc _ _ (AY _) _ _ h1];exact h
    grind
   | true=>
    grind[Mc,bS]
  | seq a b=>
   grind[Mc]
  | cond c a b=>
   grind[Mc]
  | block id b=>
   grind[Mc]
  | loop b=>
   grind[Mc]
  | rangeFunc g ps a b=>simp[Mc] at h
  | _=>assumption
theorem MN {E:Env} {cf Mf:BI->Cu} {n m:Nat} (hm:n<=m) {fn:Func} {L:BI} (hc:WM (cf L) (Mf L)) {args:List AV} {s:AQ} {r:AV×AQ} (h:Jo E cf n fn L args s=some r):Jo E Mf m fn L args s=some r:=by grind[Jo,AAo]
theorem WN {E:Env} {cf Mf:BI->Cu} {n m:Nat} (hm:n<=m) {f:FuncId} {fn:Func} (hc:∀L,WM (cf L) (Mf L)) {args:List AV} {s:AQ} {r:AV×AQ} (h:JC E cf n f fn args s=some r):JC E Mf m f fn args s=some r:=by grind[JC,MN]
theorem iD {E:Env} {cf Mf:BI->Cu} {n m:Nat} (hm:n<=m) {L:BI} {f:FuncId} {fn:Func} (hc:∀L,WM (cf L) (Mf L)) {args:List AV} {s:AQ} {r:AV×AQ} (h:EJ E cf n L f fn args s=some r):EJ E Mf m L f fn args s=some r:=by
 unfold EJ at h ⊢;split at h
 .rename_i hl
  rw[if_pos hl]
  have wr:∀b:Bool,(bif b then JC E cf n f fn args s else
   match Jo E cf n fn ⟨0,L.ro,L.rt,E.mu f,E.rr f,E.plan f⟩ args s with
   | some (v,s')=>Hy (L.rr f) s.bs.length v s'
   | none=>none)=some r->(bif b then JC E Mf m f fn args s else
   match Jo E Mf m fn ⟨0,L.ro,L.rt,E.mu f,E.rr f,E.plan f⟩ args s with
   | some (v,s')=>Hy (L.rr f) s.bs.length v s'
   | none=>none)=some r:=by grind[WN,MN]
  cases hk:E.kind f with
  | esc=>
   grind[MN]
  | rd=>
   grind[WN,MN]
  | im=>
   simp only[hk] at h ⊢;exact wr _ h
  | st=>
   simp only[hk] at h ⊢;exact wr _ h
 grind
theorem lJ {E:Env}:∀(n m:Nat),n<=m->∀L,WM (Dw E n L) (Dw E m L):=by
 intro n
 induction n with
 | zero=>intro m _ L f args s r h; grind[Dw]
 | succ n ih=>
  intro m hm L f args s r h;obtain⟨m,rfl⟩:∃m',m=m'+1:=⟨m-1,AA⟩
  grind[Dw,N9,iD]
theorem BG.oW {E:Env} {n:Nat} {L:BI} {f:FuncId} {args:List AV} {s s':AQ} {v:AV} (h:Dw E n L f args s=some (v,s')):BG E L f args s v s':=
 ⟨n,λm hm=>lJ n m hm L f args s (v,s') h⟩
def Ae (E:Env) (f:FuncId) (args:List AV) (Post:AV->Prop):Prop:=∃v,Post v/\∀L s,BG E L f args s v s
def FH:Nat->List AV->En
 | _,[]=>[]
 | i,v::vs=>(i,v)::FH (i+1) vs
theorem Y4:∀(i:Nat) (vs:List AV) (t:Nat) (v:AV),EH (FH i vs) t=some v->i<=t/\Rr vs (t-i)=v
 | i,[],t,v,h=>by simp_all[FH]
 | i,u::vs,t,v,h=>by
  simp only[FH,EH] at h;cases hb:Nat.beq t i with
  | true=>
   simp_all[Rr]
  | false=>
   rw[hb] at h;obtain⟨h1,h2⟩:=Y4 (i+1) vs t v h;refine⟨AA,?_⟩;have:t-i=(t-(i+1))+1:=AA;rw[this];exact h2
theorem lK (vs:List AV):Hs (EH (FH 0 vs)) (Rr vs):=λt v h=>(Y4 0 vs t v h).2
theorem Nv {E:Env} {L:BI} {fn:Func} {body:Code} {args:List AV} {s:AQ} {QR:AV->AQ->Prop} (hb:fn.body=some body) (h:Wp E L fn.ntmps fn.results.toList body [] (FH 0 args) s QR) :
  ∃v s' n,(∀m,n<=m->Jo E (Dw E m) m fn L args s=some (v,s'))/\QR v s':=by
 obtain⟨o,st,⟨n,h1⟩,ho,vs,h2,h3⟩:=h _ (lK args);refine⟨JB vs,st.s,n,λm hm=>?_,h3⟩
 grind[Jo]
section
variable {E:Env} {f:FuncId} {fn:Func} {body:Code} {args args':List AV}
def CT (E:Env) (f:FuncId) (n0 ro rt:Nat):BI:=⟨n0,ro,rt,E.mu f,E.rr f,E.plan f⟩
theorem Lg {L:BI} {s s':AQ} {v:AV} {n:Nat} (hfn:E.P.funcs[f]?=some fn) (hc:E.clone f=false) (h:∀m,n<=m->EJ E (Dw E m) m L f fn args s=some (v,s')):BG E L f args s v s':=by
 refine⟨n+1,λm hm=>?_⟩;obtain⟨m,rfl⟩:∃m',m=m'+1:=⟨m-1,AA⟩
 grind[Dw]
def QP (Post:AV->Prop) (r:AV) (s:AQ):Prop:=∃v,close s.bs 0 0 r=some v/\Post v
def QI (n m:Nat) (Post:AV->Prop) (r:AV) (s:AQ):Prop:=∃v,close s.bs n m r=some v/\Post v
def QM (rr:Bool) (n:Nat) (Post:AV->AQ->Prop) (r:AV) (s:AQ):Prop:=∃v s',Hy rr n r s=some (v,s')/\Post v s'
theorem pL {Post:AV->Prop} (hb:fn.body=some body)
  (h:Wp E (CT E f 0 0 0) fn.ntmps fn.results.toList body [] (FH 0 args) ⟨[],[]⟩ (QP Post)) :
  ∃v n,Post v/\∀s m,n<=m->JC E (Dw E m) m f fn args s=some (v,s):=by
 obtain⟨r,s',n,h1,v,h2,h3⟩:=Nv hb h;refine⟨v,n,h3,λs m hm=>?_⟩
 grind[JC,CT]
theorem ADJ {Post:AV->Prop} (hfn:E.P.funcs[f]?=some fn) (hb:fn.body=some body) (hk:E.kind f=.rd) (hc:E.clone f=false) (hl:args.length<=fn.ntmps) (E6:BK [] 0 0 args=some args')
  (h:Wp E (CT E f 0 0 0) fn.ntmps fn.results.toList body [] (FH 0 args') ⟨[],[]⟩ (QP Post)):Ae E f args Post:=by
 obtain⟨v,n,h1,h2⟩:=pL hb h;refine⟨v,h1,λL s=>Lg (n:=n) hfn hc λm hm=>?_⟩
 grind[EJ]
theorem AAp {Post:AV->Prop} (hfn:E.P.funcs[f]?=some fn) (hb:fn.body=some body) (hk:E.kind f=.im) (hc:E.clone f=false) (hl:args.length<=fn.ntmps) (hn:C7 args=true)
  (h:Wp E (CT E f 0 0 0) fn.ntmps fn.results.toList body [] (FH 0 args) ⟨[],[]⟩ (QP Post)):Ae E f args Post:=by
 obtain⟨v,n,h1,h2⟩:=pL hb h;refine⟨v,h1,λL s=>Lg (n:=n) hfn hc λm hm=>?_⟩
 grind[EJ]
theorem ADK {L:BI} {s:AQ} {Post:AV->AQ->Prop} (hfn:E.P.funcs[f]?=some fn) (hb:fn.body=some body) (hk:E.kind f=.im) (hc:E.clone f=false) (hl:args.length<=fn.ntmps) (hn:C7 args=false)
  (h:Wp E (CT E f 0 L.ro L.rt) fn.ntmps fn.results.toList body [] (FH 0 args) s (QM (L.rr f) s.bs.length Post)) :
  ∃v s',Post v s'/\BG E L f args s v s':=by
 obtain⟨r,s',n,h1,v,s'',h2,h3⟩:=Nv hb h;refine⟨v,s'',h3,Lg (n:=n) hfn hc λm hm=>?_⟩
 grind[EJ,CT]
theorem ADL {L:BI} {s:AQ} {Post:AV->AQ->Prop} (hfn:E.P.funcs[f]?=some fn) (hb:fn.body=some body) (hk:E.kind f=.st) (hc:E.clone f=false) (hl:args.length<=fn.ntmps)
  (h:Wp E (CT E f 0 L.ro L.rt) fn.ntmps fn.results.toList body [] (FH 0 args) s (QM (L.rr f) s.bs.length Post)) :
  ∃v s',Post v s'/\BG E L f args s v s':=by
 obtain⟨r,s',n,h1,v,s'',h2,h3⟩:=Nv hb h;refine⟨v,s'',h3,Lg (n:=n) hfn hc λm hm=>?_⟩
 grind[EJ,CT]
theorem AAq {L:BI} {s:AQ} {Post:AV->AQ->Prop} (hfn:E.P.funcs[f]?=some fn) (hb:fn.body=some body) (hk:E.kind f=.esc) (hc:E.clone f=false) (hl:args.length<=fn.ntmps)
  (h:Wp E (CT E f L.n0 L.ro L.rt) fn.ntmps fn.results.toList body [] (FH 0 args) s Post) :
  ∃v s',Post v s'/\BG E L f args s v s':=by
 obtain⟨r,s',n,h1,h2⟩:=Nv hb h;refine⟨r,s',h2,Lg (n:=n) hfn hc λm hm=>?_⟩
 grind[EJ,CT]
theorem AAr {s:AQ} {Post:AV->Prop} (hfn:E.P.funcs[f]?=some fn) (hb:fn.body=some body) (hk:E.kind f=.rd) (hc:E.clone f=false) (hl:args.length<=fn.ntmps) (E6:BK [] 0 0 args=none)
  (h:Wp E (CT E f s.bs.length s.bs.length s.ts.length) fn.ntmps fn.results.toList body [] (FH 0 args) s (QI s.bs.length s.ts.length Post)) :
  ∃v,Post v/\∀L,BG E L f args s v s:=by
 obtain⟨r,s',n,h1,v,h2,h3⟩:=Nv hb h;refine⟨v,h3,λL=>Lg (n:=n) hfn hc λm hm=>?_⟩
 grind[EJ,CT]
end
theorem AH {E:Env} {L:BI} {f:FuncId} {args:List AV} {s:AQ} {K:AV->AQ->Prop} {Post:AV->Prop} (h:Ae E f args Post) (hK:∀v,Post v->K v s):D0 E L (.func (.func f) [] []) args s K:=by
 obtain⟨v,h1,h2⟩:=h;refine⟨v,s,?_,hK v h1⟩
 grind
theorem CH {E:Env} {L:BI} {f:FuncId} {args:List AV} {s:AQ} {K:AV->AQ->Prop} {Post:AV->AQ->Prop} (h:∃v s',Post v s'/\BG E L f args s v s') (hK:∀v s',Post v s'->K v s'):D0 E L (.func (.func f) [] []) args s K:=by
 obtain⟨v,s',h1,h2⟩:=h;refine⟨v,s',?_,hK v s' h1⟩
 grind
end Go.Tel
