/-
  What a piece of code needs is enough; calls.
-/
import Derived.Test.YtpgfpakdnijngaaGreatDoorWvB
set_option linter.all false
namespace Go.Tel
theorem C0.seq {E:Env} {L:BL} {a b:Code} {st Gb st2:St} {o:Out} (h1:C0 E L a st .norm Gb) (h2:C0 E L b Gb o st2):C0 E L (.seq a b) st o st2:=by
 obtain⟨n1,h1⟩:=h1;obtain⟨n2,h2⟩:=h2;refine⟨n1+n2+1,λm k hm hk=>?_⟩;obtain⟨k,rfl⟩:∃k',k=k'+1:=⟨k-1,AA⟩
 grind[MZ]
theorem C0.AVx {E:Env} {L:BL} {a b:Code} {st Gb:St} {o:Out} (h1:C0 E L a st o Gb) (ho:o≠.norm):C0 E L (.seq a b) st o Gb:=by
 obtain⟨n1,h1⟩:=h1;refine⟨n1+1,λm k hm hk=>?_⟩;obtain⟨k,rfl⟩:∃k',k=k'+1:=⟨k-1,AA⟩
 grind[MZ]
theorem C0.loop {E:Env} {L:BL} {b:Code} {st Gb st2:St} {o:Out} (h1:C0 E L b st .norm Gb) (h2:C0 E L (.loop b) Gb o st2):C0 E L (.loop b) st o st2:=by
 obtain⟨n1,h1⟩:=h1;obtain⟨n2,h2⟩:=h2;refine⟨n1+n2+1,λm k hm hk=>?_⟩;obtain⟨k,rfl⟩:∃k',k=k'+1:=⟨k-1,AA⟩
 grind[MZ]
theorem C0.AFZ {E:Env} {L:BL} {b:Code} {st Gb:St} {o:Out} (h1:C0 E L b st o Gb) (ho:o≠.norm):C0 E L (.loop b) st o Gb:=by
 obtain⟨n1,h1⟩:=h1;refine⟨n1+1,λm k hm hk=>?_⟩;obtain⟨k,rfl⟩:∃k',k=k'+1:=⟨k-1,AA⟩
 grind[MZ]
def AMZ (id:Nat):Out->Out
 | .exit j=>bif Nat.beq j id then .norm else .exit j
 | o=>o
theorem C0.block {E:Env} {L:BL} {id:Nat} {b:Code} {st Gb:St} {o:Out} (h1:C0 E L b st o Gb):C0 E L (.block id b) st (AMZ id o) Gb:=by
 obtain⟨n1,h1⟩:=h1;refine⟨n1+1,λm k hm hk=>?_⟩;obtain⟨k,rfl⟩:∃k',k=k'+1:=⟨k-1,AA⟩;simp only[MZ,h1 m k AA AA];cases o with
 | exit j=>grind[AMZ]
 | norm=>rfl
 | ret=>rfl
theorem C0.simple {E:Env} {L:BL} {c:Code} {st Gb:St} {o:Out} (h:∀cf k,MZ E cf (k+1) L c st=some (o,Gb)):C0 E L c st o Gb:=by
 refine⟨1,λm k hm hk=>?_⟩;obtain⟨k,rfl⟩:∃k',k=k'+1:=⟨k-1,AA⟩
 grind
theorem C0.cond {E:Env} {L:BL} {c:Operand} {a b:Code} {st Gb:St} {o:Out} {t:Bool} (hc:Am st.U c=.pv (.sc (.bool t))) (h:C0 E L (bif t then a else b) st o Gb):C0 E L (.cond c a b) st o Gb:=by
 obtain⟨n1,h1⟩:=h;refine⟨n1+1,λm k hm hk=>?_⟩;obtain⟨k,rfl⟩:∃k',k=k'+1:=⟨k-1,AA⟩
 grind[MZ]
theorem C0.region {E:Env} {L:BL} {id:Nat} {ops:Array Oper} {st Gb:St} {n:Nat} (h:∀m,n<=m->Iu E L (EC E m L) ops ops.toList st=some Gb):C0 E L (.region id ops false) st .norm Gb:=by
 refine⟨n+1,λm k hm hk=>?_⟩;obtain⟨k,rfl⟩:∃k',k=k'+1:=⟨k-1,AA⟩
 grind[MZ]
theorem C0.draws {E:Env} {L:BL} {id:Nat} {ops:Array Oper} {st Gb:St} {n:Nat} {p:Bl} (hp:L.pl id=some p) (h:∀m,n<=m->Yf E L (EC E m L) p ops st=some Gb):C0 E L (.region id ops true) st .norm Gb:=by
 have hf:∃st0,Ji E L ops p.cls p.first st=some st0:=by
  have:=h n (AY n)
  grind[Yf]
 obtain⟨st0,hf⟩:=hf;refine⟨n+1,λm k hm hk=>?_⟩;obtain⟨k,rfl⟩:∃k',k=k'+1:=⟨k-1,AA⟩
 grind[MZ,sk,KM]
theorem SZ.ret {E:Env} {L:BL} {Q:Out->St->Prop} {st:St} (h:Q .ret st):∀ks,SZ E L Q ks .ret st
 | []=>h
 | .seq b::ks=>SZ.ret h ks
 | .blk id::ks=>SZ.ret h ks
 | .loop b::ks=>SZ.ret h ks
theorem Hj.prune {lv:Nat->List Nat} {c:Code} {env:En} {U:Nat->AV} (h:Hj (EH env) U):Hj (EH (prune lv c env)) U:=by
 unfold Tel.prune;split
 .rename_i k hk
  have:∀l:List Nat,Hj (EH (l.filterMap λt=>match EH env t with
    | some v=>some (t,v)
    | none=>none)) U:=by
   intro l
   induction l with
   | nil=>intro t v hv; simp_all
   | cons x l ih=>
    simp only[List.filterMap_cons];cases hx:EH env x with
    | none=>omega
    | some u=>
     intro t v hv;simp only[EH] at hv;cases hb:Nat.beq t x with
     | true=>
      rw[hb] at hv;simp at hv;rw[CC hb,<-hv];exact h x u hx
     | false=>rw[hb] at hv; exact ih t v hv
  exact this (lv k)
 omega
theorem Ot {E:Env} {N:Nat} {lk:Lk} {U:Nat->AV} {s:AQ} (hA:Hj lk U):∀(rs:List ResultVar) (K:List AV->Prop),rV E lk s rs K->∃vs,Fz E ⟨N,U,s⟩ rs=some vs/\K vs
 | [],K,h=>⟨[],rfl,h⟩
 | .tmp t::rs,K,h=>by
  obtain⟨v,h1,h2⟩:=BT h;obtain⟨vs,h3,h4⟩:=Ot (N:=N) hA rs _ h2;exact⟨_,by simp only[Fz,Na,h3,hA t v h1],h4⟩
 | .cell a t::rs,K,h=>by
  obtain⟨v,h1,h⟩:=BT h;obtain⟨k,h2,h⟩:=BT h;obtain⟨u,h3,h⟩:=AFY h2 h;obtain⟨vs,h4,h5⟩:=Ot (N:=N) hA rs _ h;exact⟨_,by simp only[Fz,Na,h4,hA a v h1,h3],h5⟩
section
variable {E:Env} {L:BL} {N:Nat} {lv:Nat->List Nat} {ct:Nat->Bool} {rs:List ResultVar} {QR:AV->AQ->Prop}
theorem jz {env:En} {U:Nat->AV} {s:AQ} (hA:Hj (EH env) U) (h:rV E (EH env) s rs λvs=>QR (I2 vs) s) {o:Out} (ho:∀id,o≠.exit id):Fin E rs QR o ⟨N,U,s⟩:=by
 obtain⟨vs,h1,h2⟩:=Ot (N:=N) hA rs _ h;exact⟨ho,vs,h1,h2⟩
theorem FE:∀(ks:List Frame) (env:En) (s:AQ) (U:Nat->AV),Hj (EH env) U ->
  (wUE E L N lv rs QR ks none env s->SZ E L (Fin E rs QR) ks .norm ⟨N,U,s⟩)/\(∀j,wUE E L N lv rs QR ks (some j) env s->SZ E L (Fin E rs QR) ks (.exit j) ⟨N,U,s⟩)
 | [],env,s,U,hA=>⟨λh=>jz hA h (λ_=>by simp),λj h=>h.elim⟩
 | .seq b::ks,env,s,U,hA=>by
  refine⟨λh=>?_,λj h=>?_⟩
  .have ret:rV E (EH env) s rs (λvs=>QR (I2 vs) s)->∃o st',C0 E L .ret ⟨N,U,s⟩ o st'/\SZ E L (Fin E rs QR) ks o st':=λh=>
    ⟨.ret,_,C0.simple λ_ _=>rfl,SZ.ret (jz hA h (λ_=>by simp)) ks⟩
   have skip:wUE E L N lv rs QR ks none env s->∃o st',C0 E L .skip ⟨N,U,s⟩ o st'/\SZ E L (Fin E rs QR) ks o st':=λh=>
    ⟨.norm,_,C0.simple λ_ _=>rfl,(FE ks env s U hA).1 h⟩
   have ex:∀j,wUE E L N lv rs QR ks (some j) env s->∃o st',C0 E L (.exit j) ⟨N,U,s⟩ o st'/\SZ E L (Fin E rs QR) ks o st':=λj h=>
    ⟨.exit j,_,C0.simple λ_ _=>rfl,(FE ks env s U hA).2 j h⟩
   have any:∀b,Wp E L N rs b ks (prune lv b env) s QR->∃o st',C0 E L b ⟨N,U,s⟩ o st'/\SZ E L (Fin E rs QR) ks o st':=λb h=>h U hA.prune
   grind[SZ]
  .exact(FE ks env s U hA).2 j h
 | .blk id::ks,env,s,U,hA=>by
  refine⟨λh=>?_,λj h=>?_⟩
  .exact(FE ks env s U hA).1 h
  .change (match Nat.beq j id with|true=>wUE E L N lv rs QR ks none env s|false=>wUE E L N lv rs QR ks (some j) env s) at h
   show(bif Nat.beq j id then SZ E L (Fin E rs QR) ks .norm ⟨N,U,s⟩ else SZ E L (Fin E rs QR) ks (.exit j) ⟨N,U,s⟩)
   cases hb:Nat.beq j id with
   | true=>rw[hb] at h; exact(FE ks env s U hA).1 h
   | false=>rw[hb] at h; exact(FE ks env s U hA).2 j h
 | .loop b::ks,env,s,U,hA=>by
  refine⟨λh=>?_,λj h=>?_⟩
  .exact h U hA.prune
  .exact(FE ks env s U hA).2 j h
theorem Wp.seq {a b:Code} {ks:List Frame} {env:En} {s:AQ} (h:Wp E L N rs a (.seq b::ks) env s QR):Wp E L N rs (.seq a b) ks env s QR:=by
 intro U hA;obtain⟨o,st,h1,h2⟩:=h U hA;cases o with
 | norm=>
  obtain⟨o,st',h3,h4⟩:=h2;exact⟨o,st',h1.seq h3,h4⟩
 | exit j=>exact⟨_,_,h1.AVx AD,h2⟩
 | ret=>exact⟨_,_,h1.AVx AD,h2⟩
theorem Wp.loop {b:Code} {ks:List Frame} {env:En} {s:AQ} (h:Wp E L N rs b (.loop b::ks) env s QR):Wp E L N rs (.loop b) ks env s QR:=by
 intro U hA;obtain⟨o,st,h1,h2⟩:=h U hA;cases o with
 | norm=>
  obtain⟨o,st',h3,h4⟩:=h2;exact⟨o,st',h1.loop h3,h4⟩
 | exit j=>exact⟨_,_,h1.AFZ AD,h2⟩
 | ret=>exact⟨_,_,h1.AFZ AD,h2⟩
theorem Wp.block {id:Nat} {b:Code} {ks:List Frame} {env:En} {s:AQ} (h:Wp E L N rs b (.blk id::ks) env s QR):Wp E L N rs (.block id b) ks env s QR:=by
 intro U hA;obtain⟨o,st,h1,h2⟩:=h U hA;refine⟨_,st,h1.block,?_⟩;cases o with
 | norm=>exact h2
 | ret=>exact h2
 | exit j=>
  grind[SZ,AMZ]
theorem wp_region {id:Nat} {ops:Array Oper} {env:En} {s:AQ} {K:En->AQ->Prop} (h:WZ E L N ops ops.toList env s K) (U:Nat->AV) (hA:Hj (EH env) U):∃env' U' s',C0 E L (.region id ops false) ⟨N,U,s⟩ .norm ⟨N,U',s'⟩/\Hj (EH env') U'/\K env' s':=by
 obtain⟨env',U',s',n,h1,h2,h3⟩:=jx _ _ (AY _) _ _ U h hA;exact⟨env',U',s',C0.region h1,h2,h3⟩
theorem fL {id:Nat} {ops:Array Oper} {env:En} {s:AQ} {K:En->AQ->Prop} (h:wO (L.pl id) λp=>zg E L N p ops env s K) (U:Nat->AV) (hA:Hj (EH env) U):∃env' U' s',C0 E L (.region id ops true) ⟨N,U,s⟩ .norm ⟨N,U',s'⟩/\Hj (EH env') U'/\K env' s':=by
 obtain⟨p,hp,h⟩:=BT h;obtain⟨env',U',s',n,h1,h2,h3⟩:=jy h hA;exact⟨env',U',s',C0.draws hp h1,h2,h3⟩
theorem YJ:∀(c:Code) (ks:List Frame) (env:En) (s:AQ),wpc E L N lv ct rs QR c ks env s->Wp E L N rs c ks env s QR:=by
 intro c
 induction c with
 | skip=>exact λks env s h U hA=>⟨.norm,_,C0.simple λ_ _=>rfl,(FE ks env s U hA).1 h⟩
 | ret=>exact λks env s h U hA=>⟨.ret,_,C0.simple λ_ _=>rfl,SZ.ret (jz hA h (λ_=>by simp)) ks⟩
 | exit j=>exact λks env s h U hA=>⟨.exit j,_,C0.simple λ_ _=>rfl,(FE ks env s U hA).2 j h⟩
 | region id ops d=>
  intro ks env s h U hA;cases d with
  | false=>
   obtain⟨env',U',s',h1,h2,h3⟩:=wp_region (id:=id) h U hA;exact⟨.norm,_,h1,(FE ks env' s' U' h2).1 h3⟩
  | true=>
   obtain⟨env',U',s',h1,h2,h3⟩:=fL h U hA;exact⟨.norm,_,h1,(FE ks env' s' U' h2).1 h3⟩
 | seq a b jI ZQ=>
  intro ks env s h
  have go:∀ks env s,(match rW ct b with
     | true=>Wp E L N rs b ks (prune lv b env) s QR
     | false=>wpc E L N lv ct rs QR b ks env s)->Wp E L N rs b ks env s QR:=by
   intro ks env s h;cases hc:rW ct b with
   | true=>
    rw[hc] at h;exact λU hA=>h U hA.prune
   | false=>
    simp_all
  have gen:wpc E L N lv ct rs QR a (.seq b::ks) env s->Wp E L N rs (.seq a b) ks env s QR:=λh=>Wp.seq (jI _ _ _ h)
  cases a with
  | region id ops d=>
   intro U hA;cases d with
   | false=>
    obtain⟨env',U',s',h1,h2,h3⟩:=wp_region (id:=id) h U hA;obtain⟨o,st,h4,h5⟩:=go _ _ _ h3 U' h2;exact⟨o,st,h1.seq h4,h5⟩
   | true=>
    obtain⟨env',U',s',h1,h2,h3⟩:=fL h U hA;obtain⟨o,st,h4,h5⟩:=go _ _ _ h3 U' h2;exact⟨o,st,h1.seq h4,h5⟩
  | _=>simp[*]
 | cond c a b jI ZQ=>
  intro ks env s h U hA;obtain⟨cv,h1,h⟩:=BT h;unfold ER at h;split at h
  .rename_i t
   cases t with
   | true=>
    obtain⟨o,st,h3,h4⟩:=jI _ _ _ (h.1 rfl) U hA;exact⟨o,st,C0.cond (CV hA h1) h3,h4⟩
   | false=>
    obtain⟨o,st,h3,h4⟩:=ZQ _ _ _ (h.2 rfl) U hA;exact⟨o,st,C0.cond (CV hA h1) h3,h4⟩
  simp_all
 | block id b ih=>simp_all[Wp.block]
 | loop b ih=>exact λks env s h U hA=>h U hA.prune
 | rangeFunc g ps a b _ _=>exact λks env s h U hA=>h U hA.prune
 | _=>simp
theorem rj {b:Code} {ks:List Frame} {env:En} {s:AQ} (h:wpc E L N lv ct rs QR b (.loop b::ks) env s):Wp E L N rs (.loop b) ks env s QR:=Wp.loop (YJ _ _ _ _ h)
end
def Vi (cf Mc:Cx):Prop:=∀f args s r,cf f args s=some r->Mc f args s=some r
theorem YK {E:Env} {L:BL} {cf Mc:Cx} (hc:Vi cf Mc) {U:Nat->AV} {s:AQ} {o:Oper} {r:AV×AQ} (h:OE E L cf U s o=some r):OE E L Mc U s o=some r:=by
 obtain⟨dst,op,type,pos,after,guard⟩:=o;cases op with
 | call c=>
  obtain⟨callee,args,ts⟩:=c;cases callee with
  | builtin b=>exact h
  | value f=>
   simp only[OE] at h ⊢;split at h
   .exact hc _ _ _ _ h
   omega
  | invoke x n=>assumption
 | _=>exact h
theorem j0 {E:Env} {L:BL} {cf Mc:Cx} (hc:Vi cf Mc) {st st':St} {o:Oper} (h:N1 E L cf st o=some st'):N1 E L Mc st o=some st':=by grind[N1,YK]
theorem rm {E:Env} {L:BL} {cf Mc:Cx} (hc:Vi cf Mc) {ops:Array Oper}:∀(n:Nat) (l:List Oper),l.length<=n->∀(st st':St),Iu E L cf ops l st=some st'->Iu E L Mc ops l st=some st':=by
 intro n
 induction n with
 | zero=>
  intro l hl st st' h;have:l=[]:=kH.1 AA;subst this;exact h
 | succ n ih=>
  intro l hl st st' h;cases l with
  | nil=>exact h
  | cons o rest=>
   have hl':rest.length<=n:=AB
   have one:(match FM ops st.U o with
     | some true=>match N1 E L cf st o with
      | some st=>Iu E L cf ops rest st
      | none=>none
     | some false=>match Ky st o.dst (.tuple []) with
      | some st=>Iu E L cf ops rest st
      | none=>none
     | none=>none)=some st'->(match FM ops st.U o with
     | some true=>match N1 E L Mc st o with
      | some st=>Iu E L Mc ops rest st
      | none=>none
     | some false=>match Ky st o.dst (.tuple []) with
      | some st=>Iu E L Mc ops rest st
      | none=>none
     | none=>none)=some st':=by
    intro h;split at h
    .grind[j0]
    .grind
    .omega
   match rest,hl',h,one with
   | [],hl',h,one=>
    rw[Iu] at h ⊢ <;> first|exact one h|simp
   | [o1],hl',h,one=>
    rw[Iu] at h ⊢ <;> first|exact one h|simp
   | o1::o2::rest',hl',h,one=>
    rw[Iu] at h ⊢;cases hk:fused o o1 o2 with
    | none=>rw[hk] at h; exact one h
    | some k=>
     simp only[hk] at h ⊢;cases h1:Jg E L st.U st.s k with
     | some q=>
      grind
     | none=>
      simp only[h1] at h ⊢;exact one h
theorem rq {E:Env} {L:BL} {cf Mc:Cx} (hc:Vi cf Mc) {ops:Array Oper} {U:Nat->AV} {s:AQ} {o:Oper} {r:AV×AQ} (h:OG E L cf ops U s o=some r):OG E L Mc ops U s o=some r:=by grind[OG,YK]
theorem IE {E:Env} {L:BL} {cf Mc:Cx} (hc:Vi cf Mc) {ops:Array Oper} {cls:List aK}:∀(l:List Nat) (st:St) (acc:List AQ) (r:St×List AQ),HT E L cf ops cls l st acc=some r->HT E L Mc ops cls l st acc=some r
 | [],st,acc,r,h=>h
 | i::rest,st,acc,r,h=>by
  simp only[HT] at h ⊢;cases ho:ops[i]? with
  | none=>grind
  | some o=>
   cases Ff:cls[i]? with
   | none=>grind
   | some c=>
    simp only[ho,Ff] at h ⊢;cases c with
    | q ts=>
     simp only at h ⊢;cases h1:FN E L ops st.U st.s o with
     | none=>grind
     | some v=>
      simp only[h1] at h ⊢;cases h2:Ky st o.dst v with
      | none=>grind
      | some Gb=>
       simp only[h2] at h ⊢;exact IE hc rest _ _ _ h
    | w k=>
     simp only at h ⊢;cases h1:OG E L cf ops st.U st.s o with
     | none=>grind
     | some v=>
      obtain⟨v,s⟩:=v;simp only[h1,rq hc h1] at h ⊢;cases h2:Ky { st with s:=s } o.dst v with
      | none=>grind
      | some Gb=>
       simp only[h2] at h ⊢;exact IE hc rest _ _ _ h
    | fa k j x=>
     simp only at h ⊢;cases hj:ops[j]? with
     | none=>grind
     | some o1=>
      cases hx:ops[x]? with
      | none=>grind
      | some o2=>
       simp only[hj,hx] at h ⊢;cases hk:fused o o1 o2 with
       | none=>grind
       | some q=>
        simp only[hk] at h ⊢;cases h1:K0 E L st.U st.s q with
        | none=>grind
        | some v=>
         obtain⟨v,s⟩:=v;simp only[h1] at h ⊢;cases h2:Ke st q v s with
         | none=>grind
         | some Gb=>
          simp only[h2] at h ⊢;exact IE hc rest _ _ _ h
    | fj=>exact IE hc rest _ _ _ h
    | fx=>exact IE hc rest _ _ _ h
    | h ts=>omega
theorem aI {E:Env} {L:BL} {cf Mc:Cx} (hc:Vi cf Mc) {ops:Array Oper} {st st':St} {p:Option Bl} (h:KM E L cf ops st p=some st'):KM E L Mc ops st p=some st':=by
 cases p with
 | none=>assumption
 | some p=>
  grind[KM,Yf,IE]
theorem zj {E:Env} {cf Mc:BL->Cx} {L:BL} (hc:Vi (cf L) (Mc L)):∀(n m:Nat),n<=m->∀(c:Code) (st:St) (r:Out×St),MZ E cf n L c st=some r->MZ E Mc m L c st=some r:=by
 intro n
 induction n with
 | zero=>grind[MZ]
 | succ n ih=>
  intro m hm c st r h;obtain⟨m,rfl⟩:∃m',m=m'+1:=⟨m-1,AA⟩;have hm':n<=m:=AA;cases c with
  | skip=>exact h
  | ret=>exact h
  | exit id=>exact h
  | region id ops d=>
   cases d with
   | false=>
    simp only[MZ] at h ⊢;split at h
    .rename_i h1
     simp only[rm hc _ _ (AY _) _ _ h1];exact h
    grind
   | true=>
    grind[MZ,aI]
  | seq a b=>
   grind[MZ]
  | cond c a b=>
   grind[MZ]
  | block id b=>
   grind[MZ]
  | loop b=>
   grind[MZ]
  | rangeFunc g ps a b=>simp[MZ] at h
  | _=>assumption
theorem MJ {E:Env} {cf Mc:BL->Cx} {n m:Nat} (hm:n<=m) {fn:Func} {L:BL} (hc:Vi (cf L) (Mc L)) {args:List AV} {s:AQ} {r:AV×AQ} (h:Jj E cf n fn L args s=some r):Jj E Mc m fn L args s=some r:=by grind[Jj,zj]
theorem Vj {E:Env} {cf Mc:BL->Cx} {n m:Nat} (hm:n<=m) {f:FuncId} {fn:Func} (hc:∀L,Vi (cf L) (Mc L)) {args:List AV} {s:AQ} {r:AV×AQ} (h:I3 E cf n f fn args s=some r):I3 E Mc m f fn args s=some r:=by grind[I3,MJ]
theorem fM {E:Env} {cf Mc:BL->Cx} {n m:Nat} (hm:n<=m) {L:BL} {f:FuncId} {fn:Func} (hc:∀L,Vi (cf L) (Mc L)) {args:List AV} {s:AQ} {r:AV×AQ} (h:EJ E cf n L f fn args s=some r):EJ E Mc m L f fn args s=some r:=by
 unfold EJ at h ⊢;split at h
 .rename_i hl
  rw[if_pos hl]
  have wr:∀b:Bool,(bif b then I3 E cf n f fn args s else
   match Jj E cf n fn ⟨0,L.ro,L.rt,E.mu f,E.rr f,E.plan f⟩ args s with
   | some (v,s')=>Hs (L.rr f) s.bs.length v s'
   | none=>none)=some r->(bif b then I3 E Mc m f fn args s else
   match Jj E Mc m fn ⟨0,L.ro,L.rt,E.mu f,E.rr f,E.plan f⟩ args s with
   | some (v,s')=>Hs (L.rr f) s.bs.length v s'
   | none=>none)=some r:=by grind[Vj,MJ]
  cases hk:E.kind f with
  | esc=>
   grind[MJ]
  | rd=>
   grind[Vj,MJ]
  | im=>
   simp only[hk] at h ⊢;exact wr _ h
  | st=>
   simp only[hk] at h ⊢;exact wr _ h
 grind
theorem j4 {E:Env}:∀(n m:Nat),n<=m->∀L,Vi (EC E n L) (EC E m L):=by
 intro n
 induction n with
 | zero=>intro m _ L f args s r h; grind[EC]
 | succ n ih=>
  intro m hm L f args s r h;obtain⟨m,rfl⟩:∃m',m=m'+1:=⟨m-1,AA⟩
  grind[EC,PC,fM]
theorem BW.kg {E:Env} {n:Nat} {L:BL} {f:FuncId} {args:List AV} {s s':AQ} {v:AV} (h:EC E n L f args s=some (v,s')):BW E L f args s v s':=
 ⟨n,λm hm=>j4 n m hm L f args s (v,s') h⟩
def Af (E:Env) (f:FuncId) (args:List AV) (Post:AV->Prop):Prop:=∃v,Post v/\∀L s,BW E L f args s v s
def FC:Nat->List AV->En
 | _,[]=>[]
 | i,v::vs=>(i,v)::FC (i+1) vs
theorem YL:∀(i:Nat) (vs:List AV) (t:Nat) (v:AV),EH (FC i vs) t=some v->i<=t/\RZ vs (t-i)=v
 | i,[],t,v,h=>by simp_all[FC]
 | i,u::vs,t,v,h=>by
  simp only[FC,EH] at h;cases hb:Nat.beq t i with
  | true=>
   simp_all[RZ]
  | false=>
   rw[hb] at h;obtain⟨h1,h2⟩:=YL (i+1) vs t v h;refine⟨AA,?_⟩;have:t-i=(t-(i+1))+1:=AA;rw[this];exact h2
theorem j5 (vs:List AV):Hj (EH (FC 0 vs)) (RZ vs):=λt v h=>(YL 0 vs t v h).2
theorem Nn {E:Env} {L:BL} {fn:Func} {body:Code} {args:List AV} {s:AQ} {QR:AV->AQ->Prop} (hb:fn.body=some body) (h:Wp E L fn.ntmps fn.results.toList body [] (FC 0 args) s QR) :
  ∃v s' n,(∀m,n<=m->Jj E (EC E m) m fn L args s=some (v,s'))/\QR v s':=by
 obtain⟨o,st,⟨n,h1⟩,ho,vs,h2,h3⟩:=h _ (j5 args);refine⟨I2 vs,st.s,n,λm hm=>?_,h3⟩
 grind[Jj]
section
variable {E:Env} {f:FuncId} {fn:Func} {body:Code} {args args':List AV}
def Ce (E:Env) (f:FuncId) (n0 ro rt:Nat):BL:=⟨n0,ro,rt,E.mu f,E.rr f,E.plan f⟩
theorem LX {L:BL} {s s':AQ} {v:AV} {n:Nat} (hfn:E.P.funcs[f]?=some fn) (hc:E.clone f=false) (h:∀m,n<=m->EJ E (EC E m) m L f fn args s=some (v,s')):BW E L f args s v s':=by
 refine⟨n+1,λm hm=>?_⟩;obtain⟨m,rfl⟩:∃m',m=m'+1:=⟨m-1,AA⟩
 grind[EC]
def QP (Post:AV->Prop) (r:AV) (s:AQ):Prop:=∃v,close s.bs 0 0 r=some v/\Post v
def QI (n m:Nat) (Post:AV->Prop) (r:AV) (s:AQ):Prop:=∃v,close s.bs n m r=some v/\Post v
def QM (rr:Bool) (n:Nat) (Post:AV->AQ->Prop) (r:AV) (s:AQ):Prop:=∃v s',Hs rr n r s=some (v,s')/\Post v s'
theorem nj {Post:AV->Prop} (hb:fn.body=some body)
  (h:Wp E (Ce E f 0 0 0) fn.ntmps fn.results.toList body [] (FC 0 args) ⟨[],[]⟩ (QP Post)) :
  ∃v n,Post v/\∀s m,n<=m->I3 E (EC E m) m f fn args s=some (v,s):=by
 obtain⟨r,s',n,h1,v,h2,h3⟩:=Nn hb h;refine⟨v,n,h3,λs m hm=>?_⟩
 grind[I3,Ce]
theorem ACP {Post:AV->Prop} (hfn:E.P.funcs[f]?=some fn) (hb:fn.body=some body) (hk:E.kind f=.rd) (hc:E.clone f=false) (hl:args.length<=fn.ntmps) (Ff:BR [] 0 0 args=some args')
  (h:Wp E (Ce E f 0 0 0) fn.ntmps fn.results.toList body [] (FC 0 args') ⟨[],[]⟩ (QP Post)):Af E f args Post:=by
 obtain⟨v,n,h1,h2⟩:=nj hb h;refine⟨v,h1,λL s=>LX (n:=n) hfn hc λm hm=>?_⟩
 grind[EJ]
theorem zk {Post:AV->Prop} (hfn:E.P.funcs[f]?=some fn) (hb:fn.body=some body) (hk:E.kind f=.im) (hc:E.clone f=false) (hl:args.length<=fn.ntmps) (hn:DK args=true)
  (h:Wp E (Ce E f 0 0 0) fn.ntmps fn.results.toList body [] (FC 0 args) ⟨[],[]⟩ (QP Post)):Af E f args Post:=by
 obtain⟨v,n,h1,h2⟩:=nj hb h;refine⟨v,h1,λL s=>LX (n:=n) hfn hc λm hm=>?_⟩
 grind[EJ]
theorem ACQ {L:BL} {s:AQ} {Post:AV->AQ->Prop} (hfn:E.P.funcs[f]?=some fn) (hb:fn.body=some body) (hk:E.kind f=.im) (hc:E.clone f=false) (hl:args.length<=fn.ntmps) (hn:DK args=false)
  (h:Wp E (Ce E f 0 L.ro L.rt) fn.ntmps fn.results.toList body [] (FC 0 args) s (QM (L.rr f) s.bs.length Post)) :
  ∃v s',Post v s'/\BW E L f args s v s':=by
 obtain⟨r,s',n,h1,v,s'',h2,h3⟩:=Nn hb h;refine⟨v,s'',h3,LX (n:=n) hfn hc λm hm=>?_⟩
 grind[EJ,Ce]
theorem ACR {L:BL} {s:AQ} {Post:AV->AQ->Prop} (hfn:E.P.funcs[f]?=some fn) (hb:fn.body=some body) (hk:E.kind f=.st) (hc:E.clone f=false) (hl:args.length<=fn.ntmps)
  (h:Wp E (Ce E f 0 L.ro L.rt) fn.ntmps fn.results.toList body [] (FC 0 args) s (QM (L.rr f) s.bs.length Post)) :
  ∃v s',Post v s'/\BW E L f args s v s':=by
 obtain⟨r,s',n,h1,v,s'',h2,h3⟩:=Nn hb h;refine⟨v,s'',h3,LX (n:=n) hfn hc λm hm=>?_⟩
 grind[EJ,Ce]
theorem zl {L:BL} {s:AQ} {Post:AV->AQ->Prop} (hfn:E.P.funcs[f]?=some fn) (hb:fn.body=some body) (hk:E.kind f=.esc) (hc:E.clone f=false) (hl:args.length<=fn.ntmps)
  (h:Wp E (Ce E f L.n0 L.ro L.rt) fn.ntmps fn.results.toList body [] (FC 0 args) s Post) :
  ∃v s',Post v s'/\BW E L f args s v s':=by
 obtain⟨r,s',n,h1,h2⟩:=Nn hb h;refine⟨r,s',h2,LX (n:=n) hfn hc λm hm=>?_⟩
 grind[EJ,Ce]
theorem zm {s:AQ} {Post:AV->Prop} (hfn:E.P.funcs[f]?=some fn) (hb:fn.body=some body) (hk:E.kind f=.rd) (hc:E.clone f=false) (hl:args.length<=fn.ntmps) (Ff:BR [] 0 0 args=none)
  (h:Wp E (Ce E f s.bs.length s.bs.length s.ts.length) fn.ntmps fn.results.toList body [] (FC 0 args) s (QI s.bs.length s.ts.length Post)) :
  ∃v,Post v/\∀L,BW E L f args s v s:=by
 obtain⟨r,s',n,h1,v,h2,h3⟩:=Nn hb h;refine⟨v,h3,λL=>LX (n:=n) hfn hc λm hm=>?_⟩
 grind[EJ,Ce]
end
theorem AL {E:Env} {L:BL} {f:FuncId} {args:List AV} {s:AQ} {K:AV->AQ->Prop} {Post:AV->Prop} (h:Af E f args Post) (hK:∀v,Post v->K v s):He E L (.func (.func f) [] []) args s K:=by
 obtain⟨v,h1,h2⟩:=h;refine⟨v,s,?_,hK v h1⟩
 grind
theorem Cs {E:Env} {L:BL} {f:FuncId} {args:List AV} {s:AQ} {K:AV->AQ->Prop} {Post:AV->AQ->Prop} (h:∃v s',Post v s'/\BW E L f args s v s') (hK:∀v s',Post v s'->K v s'):He E L (.func (.func f) [] []) args s K:=by
 obtain⟨v,s',h1,h2⟩:=h;refine⟨v,s',?_,hK v s' h1⟩
 grind
end Go.Tel
