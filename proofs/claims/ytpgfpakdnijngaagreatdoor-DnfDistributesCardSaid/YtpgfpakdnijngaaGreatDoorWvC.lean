/-
  What a piece of code needs is enough; calls.
-/
import Derived.Test.YtpgfpakdnijngaaGreatDoorWvB
import Derived.Test.YtpgfpakdnijngaaGreatDoorEvI
set_option linter.unusedSimpArgs false
set_option linter.unusedVariables false
namespace Go.Tel
theorem CG.seq {E:Env} {L:A0} {a b:Code} {st E7 wL:St} {o:Out} (h1:CG E L a st .norm E7) (h2:CG E L b E7 o wL):CG E L (.seq a b) st o wL:=by
 obtain⟨n1,h1⟩:=h1;obtain⟨n2,h2⟩:=h2;refine⟨n1+n2+1,fun m k hm hk=>?_⟩;obtain⟨k,rfl⟩:∃ k',k=k'+1:=⟨k-1,by omega⟩;simp only[HV,h1 m k (by omega) (by omega),h2 m k (by omega) (by omega)]
theorem CG.AAF {E:Env} {L:A0} {a b:Code} {st E7:St} {o:Out} (h1:CG E L a st o E7) (ho:o≠.norm):CG E L (.seq a b) st o E7:=by
 obtain⟨n1,h1⟩:=h1;refine⟨n1+1,fun m k hm hk=>?_⟩;obtain⟨k,rfl⟩:∃ k',k=k'+1:=⟨k-1,by omega⟩;simp only[HV,h1 m k (by omega) (by omega)];cases o <;> simp_all
theorem CG.loop {E:Env} {L:A0} {b:Code} {st E7 wL:St} {o:Out} (h1:CG E L b st .norm E7) (h2:CG E L (.loop b) E7 o wL):CG E L (.loop b) st o wL:=by
 obtain⟨n1,h1⟩:=h1;obtain⟨n2,h2⟩:=h2;refine⟨n1+n2+1,fun m k hm hk=>?_⟩;obtain⟨k,rfl⟩:∃ k',k=k'+1:=⟨k-1,by omega⟩;simp only[HV,h1 m k (by omega) (by omega),h2 m k (by omega) (by omega)]
theorem CG.ADJ {E:Env} {L:A0} {b:Code} {st E7:St} {o:Out} (h1:CG E L b st o E7) (ho:o≠.norm):CG E L (.loop b) st o E7:=by
 obtain⟨n1,h1⟩:=h1;refine⟨n1+1,fun m k hm hk=>?_⟩;obtain⟨k,rfl⟩:∃ k',k=k'+1:=⟨k-1,by omega⟩;simp only[HV,h1 m k (by omega) (by omega)];cases o <;> simp_all
def AAG (id:Nat):Out->Out
 | .exit j=>bif Nat.beq j id then .norm else .exit j
 | o=>o
theorem CG.block {E:Env} {L:A0} {id:Nat} {b:Code} {st E7:St} {o:Out} (h1:CG E L b st o E7):CG E L (.block id b) st (AAG id o) E7:=by
 obtain⟨n1,h1⟩:=h1;refine⟨n1+1,fun m k hm hk=>?_⟩;obtain⟨k,rfl⟩:∃ k',k=k'+1:=⟨k-1,by omega⟩;simp only[HV,h1 m k (by omega) (by omega)];cases o with
 | exit j=>simp only[AAG]; cases Nat.beq j id <;> rfl
 | norm=>rfl
 | ret=>rfl
theorem CG.simple {E:Env} {L:A0} {c:Code} {st E7:St} {o:Out} (h:∀ cf k,HV E cf (k+1) L c st=some (o,E7)):CG E L c st o E7:=by
 refine⟨1,fun m k hm hk=>?_⟩;obtain⟨k,rfl⟩:∃ k',k=k'+1:=⟨k-1,by omega⟩;exact h _ _
theorem CG.cond {E:Env} {L:A0} {c:Operand} {a b:Code} {st E7:St} {o:Out} {t:Bool} (hc:AP st.ρ c=.pv (.sc (.bool t))) (h:CG E L (bif t then a else b) st o E7):CG E L (.cond c a b) st o E7:=by
 obtain⟨n1,h1⟩:=h;refine⟨n1+1,fun m k hm hk=>?_⟩;obtain⟨k,rfl⟩:∃ k',k=k'+1:=⟨k-1,by omega⟩;simp only[HV,hc];exact h1 m k (by omega) (by omega)
theorem CG.region {E:Env} {L:A0} {id:Nat} {ops:Array Oper} {st E7:St} {n:Nat} (h:∀ m,n<=m->Ip E L (Cw E m L) ops ops.toList st=some E7):CG E L (.region id ops false) st .norm E7:=by
 refine⟨n+1,fun m k hm hk=>?_⟩;obtain⟨k,rfl⟩:∃ k',k=k'+1:=⟨k-1,by omega⟩;simp only[HV,h m (by omega)]
theorem CG.draws {E:Env} {L:A0} {id:Nat} {ops:Array Oper} {st E7:St} {n:Nat} {p:Bg} (hp:L.pl id=some p) (h:∀ m,n<=m->ZE E L (Cw E m L) p ops st=some E7):CG E L (.region id ops true) st .norm E7:=by
 have hf:∃ oG,Iq E L ops p.cls p.first st=some oG:=by
  have:=h n (AL n);unfold ZE at this;split at this
  ·rename_i oG h0
   exact⟨oG,h0⟩
  ·simp at this
 obtain⟨oG,hf⟩:=hf;refine⟨n+1,fun m k hm hk=>?_⟩;obtain⟨k,rfl⟩:∃ k',k=k'+1:=⟨k-1,by omega⟩;simp only[HV,oH,hp,hf,I7,h m (by omega)]
theorem RI.ret {E:Env} {L:A0} {Q:Out->St->Prop} {st:St} (h:Q .ret st):∀ ks,RI E L Q ks .ret st
 | []=>h
 | .seq b::ks=>RI.ret h ks
 | .blk id::ks=>RI.ret h ks
 | .loop b::ks=>RI.ret h ks
theorem Ik.prune {lv:Nat->List Nat} {c:Code} {env:En} {ρ:Nat->AV} (h:Ik (Fo env) ρ):Ik (Fo (prune lv c env)) ρ:=by
 unfold Tel.prune;split
 ·rename_i k hk
  have:∀ l:List Nat,Ik (Fo (l.filterMap fun t=>match Fo env t with
    | some v=>some (t,v)
    | none=>none)) ρ:=by
   intro l
   induction l with
   | nil=>intro t v hv; simp[Fo] at hv
   | cons x l ih=>
    simp only[List.filterMap_cons];cases hx:Fo env x with
    | none=>exact ih
    | some u=>
     intro t v hv;simp only[Fo] at hv;cases hb:Nat.beq t x with
     | true=>
      rw[hb] at hv;simp at hv;rw[BM hb,<-hv];exact h x u hx
     | false=>rw[hb] at hv; exact ih t v hv
  exact this (lv k)
 ·exact h
theorem OG {E:Env} {N:Nat} {lk:Lk} {ρ:Nat->AV} {s:AK} (hA:Ik lk ρ):∀ (rs:List ResultVar) (K:List AV->Prop),cT E lk s rs K->∃ vs,F4 E ⟨N,ρ,s⟩ rs=some vs/\K vs
 | [],K,h=>⟨[],rfl,h⟩
 | .tmp t::rs,K,h=>by
  obtain⟨v,h1,h2⟩:=Ag h;obtain⟨vs,h3,h4⟩:=OG (N:=N) hA rs _ h2;exact⟨_,by simp only[F4,Mv,h3,hA t v h1],h4⟩
 | .cell a t::rs,K,h=>by
  obtain⟨v,h1,h⟩:=Ag h;obtain⟨k,h2,h⟩:=Ag h;obtain⟨u,h3,h⟩:=ADH h2 h;obtain⟨vs,h4,h5⟩:=OG (N:=N) hA rs _ h;exact⟨_,by simp only[F4,Mv,h4,hA a v h1,h3],h5⟩
section
variable {E:Env} {L:A0} {N:Nat} {lv:Nat->List Nat} {ct:Nat->Bool} {rs:List ResultVar} {QR:AV->AK->Prop}
theorem Yu {env:En} {ρ:Nat->AV} {s:AK} (hA:Ik (Fo env) ρ) (h:cT E (Fo env) s rs fun vs=>QR (JS vs) s) {o:Out} (ho:∀ id,o≠.exit id):Fin E rs QR o ⟨N,ρ,s⟩:=by
 obtain⟨vs,h1,h2⟩:=OG (N:=N) hA rs _ h;exact⟨ho,vs,h1,h2⟩
theorem FF:∀ (ks:List Frame) (env:En) (s:AK) (ρ:Nat->AV),Ik (Fo env) ρ ->
  (x8 E L N lv rs QR ks none env s->RI E L (Fin E rs QR) ks .norm ⟨N,ρ,s⟩)/\(∀ j,x8 E L N lv rs QR ks (some j) env s->RI E L (Fin E rs QR) ks (.exit j) ⟨N,ρ,s⟩)
 | [],env,s,ρ,hA=>⟨fun h=>Yu hA h (fun _=>by simp),fun j h=>h.elim⟩
 | .seq b::ks,env,s,ρ,hA=>by
  refine⟨fun h=>?_,fun j h=>?_⟩
  ·have ret:cT E (Fo env) s rs (fun vs=>QR (JS vs) s)->∃ o st',CG E L .ret ⟨N,ρ,s⟩ o st'/\RI E L (Fin E rs QR) ks o st':=fun h=>
    ⟨.ret,_,CG.simple fun _ _=>rfl,RI.ret (Yu hA h (fun _=>by simp)) ks⟩
   have skip:x8 E L N lv rs QR ks none env s->∃ o st',CG E L .skip ⟨N,ρ,s⟩ o st'/\RI E L (Fin E rs QR) ks o st':=fun h=>
    ⟨.norm,_,CG.simple fun _ _=>rfl,(FF ks env s ρ hA).1 h⟩
   have ex:∀ j,x8 E L N lv rs QR ks (some j) env s->∃ o st',CG E L (.exit j) ⟨N,ρ,s⟩ o st'/\RI E L (Fin E rs QR) ks o st':=fun j h=>
    ⟨.exit j,_,CG.simple fun _ _=>rfl,(FF ks env s ρ hA).2 j h⟩
   have any:∀ b,Wp E L N rs b ks (prune lv b env) s QR->∃ o st',CG E L b ⟨N,ρ,s⟩ o st'/\RI E L (Fin E rs QR) ks o st':=fun b h=>h ρ hA.prune
   show ∃ o st',CG E L b ⟨N,ρ,s⟩ o st'/\RI E L (Fin E rs QR) ks o st'
   cases b <;> first|exact ret h|exact skip h|exact ex _ h|exact any _ h
  ·exact(FF ks env s ρ hA).2 j h
 | .blk id::ks,env,s,ρ,hA=>by
  refine⟨fun h=>?_,fun j h=>?_⟩
  ·exact(FF ks env s ρ hA).1 h
  ·change (match Nat.beq j id with|true=>x8 E L N lv rs QR ks none env s|false=>x8 E L N lv rs QR ks (some j) env s) at h
   show(bif Nat.beq j id then RI E L (Fin E rs QR) ks .norm ⟨N,ρ,s⟩ else RI E L (Fin E rs QR) ks (.exit j) ⟨N,ρ,s⟩)
   cases hb:Nat.beq j id with
   | true=>rw[hb] at h; exact(FF ks env s ρ hA).1 h
   | false=>rw[hb] at h; exact(FF ks env s ρ hA).2 j h
 | .loop b::ks,env,s,ρ,hA=>by
  refine⟨fun h=>?_,fun j h=>?_⟩
  ·exact h ρ hA.prune
  ·exact(FF ks env s ρ hA).2 j h
theorem Wp.seq {a b:Code} {ks:List Frame} {env:En} {s:AK} (h:Wp E L N rs a (.seq b::ks) env s QR):Wp E L N rs (.seq a b) ks env s QR:=by
 intro ρ hA;obtain⟨o,st,h1,h2⟩:=h ρ hA;cases o with
 | norm=>
  obtain⟨o,st',h3,h4⟩:=h2;exact⟨o,st',h1.seq h3,h4⟩
 | exit j=>exact⟨_,_,h1.AAF (by simp),h2⟩
 | ret=>exact⟨_,_,h1.AAF (by simp),h2⟩
theorem Wp.loop {b:Code} {ks:List Frame} {env:En} {s:AK} (h:Wp E L N rs b (.loop b::ks) env s QR):Wp E L N rs (.loop b) ks env s QR:=by
 intro ρ hA;obtain⟨o,st,h1,h2⟩:=h ρ hA;cases o with
 | norm=>
  obtain⟨o,st',h3,h4⟩:=h2;exact⟨o,st',h1.loop h3,h4⟩
 | exit j=>exact⟨_,_,h1.ADJ (by simp),h2⟩
 | ret=>exact⟨_,_,h1.ADJ (by simp),h2⟩
theorem Wp.block {id:Nat} {b:Code} {ks:List Frame} {env:En} {s:AK} (h:Wp E L N rs b (.blk id::ks) env s QR):Wp E L N rs (.block id b) ks env s QR:=by
 intro ρ hA;obtain⟨o,st,h1,h2⟩:=h ρ hA;refine⟨_,st,h1.block,?_⟩;cases o with
 | norm=>exact h2
 | ret=>exact h2
 | exit j=>
  simp only[RI] at h2;simp only[AAG];cases hb:Nat.beq j id with
  | true=>rw[hb] at h2; exact h2
  | false=>rw[hb] at h2; exact h2
theorem wp_region {id:Nat} {ops:Array Oper} {env:En} {s:AK} {K:En->AK->Prop} (h:UI E L N ops ops.toList env s K) (ρ:Nat->AV) (hA:Ik (Fo env) ρ):∃ env' ρ' s',CG E L (.region id ops false) ⟨N,ρ,s⟩ .norm ⟨N,ρ',s'⟩/\Ik (Fo env') ρ'/\K env' s':=by
 obtain⟨env',ρ',s',n,h1,h2,h3⟩:=gX _ _ (AL _) _ _ ρ h hA;exact⟨env',ρ',s',CG.region h1,h2,h3⟩
theorem UJ {id:Nat} {ops:Array Oper} {env:En} {s:AK} {K:En->AK->Prop} (h:wO (L.pl id) fun p=>nC E L N p ops env s K) (ρ:Nat->AV) (hA:Ik (Fo env) ρ):∃ env' ρ' s',CG E L (.region id ops true) ⟨N,ρ,s⟩ .norm ⟨N,ρ',s'⟩/\Ik (Fo env') ρ'/\K env' s':=by
 obtain⟨p,hp,h⟩:=Ag h;obtain⟨env',ρ',s',n,h1,h2,h3⟩:=gY h hA;exact⟨env',ρ',s',CG.draws hp h1,h2,h3⟩
theorem Wo:∀ (c:Code) (ks:List Frame) (env:En) (s:AK),wpc E L N lv ct rs QR c ks env s->Wp E L N rs c ks env s QR:=by
 intro c
 induction c with
 | skip=>exact fun ks env s h ρ hA=>⟨.norm,_,CG.simple fun _ _=>rfl,(FF ks env s ρ hA).1 h⟩
 | ret=>exact fun ks env s h ρ hA=>⟨.ret,_,CG.simple fun _ _=>rfl,RI.ret (Yu hA h (fun _=>by simp)) ks⟩
 | exit j=>exact fun ks env s h ρ hA=>⟨.exit j,_,CG.simple fun _ _=>rfl,(FF ks env s ρ hA).2 j h⟩
 | region id ops d=>
  intro ks env s h ρ hA;cases d with
  | false=>
   obtain⟨env',ρ',s',h1,h2,h3⟩:=wp_region (id:=id) h ρ hA;exact⟨.norm,_,h1,(FF ks env' s' ρ' h2).1 h3⟩
  | true=>
   obtain⟨env',ρ',s',h1,h2,h3⟩:=UJ h ρ hA;exact⟨.norm,_,h1,(FF ks env' s' ρ' h2).1 h3⟩
 | seq a b U4 TI=>
  intro ks env s h
  have go:∀ ks env s,(match AAM ct b with
     | true=>Wp E L N rs b ks (prune lv b env) s QR
     | false=>wpc E L N lv ct rs QR b ks env s)->Wp E L N rs b ks env s QR:=by
   intro ks env s h;cases hc:AAM ct b with
   | true=>
    rw[hc] at h;exact fun ρ hA=>h ρ hA.prune
   | false=>
    rw[hc] at h;exact TI _ _ _ h
  have gen:wpc E L N lv ct rs QR a (.seq b::ks) env s->Wp E L N rs (.seq a b) ks env s QR:=fun h=>Wp.seq (U4 _ _ _ h)
  cases a with
  | region id ops d=>
   intro ρ hA;cases d with
   | false=>
    obtain⟨env',ρ',s',h1,h2,h3⟩:=wp_region (id:=id) h ρ hA;obtain⟨o,st,h4,h5⟩:=go _ _ _ h3 ρ' h2;exact⟨o,st,h1.seq h4,h5⟩
   | true=>
    obtain⟨env',ρ',s',h1,h2,h3⟩:=UJ h ρ hA;obtain⟨o,st,h4,h5⟩:=go _ _ _ h3 ρ' h2;exact⟨o,st,h1.seq h4,h5⟩
  | _=>exact gen h
 | cond c a b U4 TI=>
  intro ks env s h ρ hA;obtain⟨cv,h1,h⟩:=Ag h;unfold AX at h;split at h
  ·rename_i t
   cases t with
   | true=>
    obtain⟨o,st,h3,h4⟩:=U4 _ _ _ (h.1 rfl) ρ hA;exact⟨o,st,CG.cond (BU hA h1) h3,h4⟩
   | false=>
    obtain⟨o,st,h3,h4⟩:=TI _ _ _ (h.2 rfl) ρ hA;exact⟨o,st,CG.cond (BU hA h1) h3,h4⟩
  ·exact h.elim
 | block id b ih=>exact fun ks env s h=>Wp.block (ih _ _ _ h)
 | loop b ih=>exact fun ks env s h ρ hA=>h ρ hA.prune
 | rangeFunc g ps a b _ _=>exact fun ks env s h ρ hA=>h ρ hA.prune
 | _=>exact fun ks env s h=>h.elim
theorem nM {b:Code} {ks:List Frame} {env:En} {s:AK} (h:wpc E L N lv ct rs QR b (.loop b::ks) env s):Wp E L N rs (.loop b) ks env s QR:=Wp.loop (Wo _ _ _ _ h)
theorem AGj {A:Prop} (c:Code) (ks:List Frame) (env:En) (s:AK) (h:A) (e:A=wpc E L N lv ct rs QR c ks env s):Wp E L N rs c ks env s QR:=Wo c ks env s (e ▸ h)
theorem AGk {A:Prop} (b:Code) (ks:List Frame) (env:En) (s:AK) (h:A) (e:A=wpc E L N lv ct rs QR b (.loop b::ks) env s):Wp E L N rs (.loop b) ks env s QR:=nM (e ▸ h)
end
def UP (cf L4:Co):Prop:=∀ f args s r,cf f args s=some r->L4 f args s=some r
theorem Wr {E:Env} {L:A0} {cf L4:Co} (hc:UP cf L4) {ρ:Nat->AV} {s:AK} {o:Oper} {r:AV×AK} (h:ND E L cf ρ s o=some r):ND E L L4 ρ s o=some r:=by
 obtain⟨dst,op,type,pos,after,guard⟩:=o;cases op with
 | call c=>
  obtain⟨callee,args,ts⟩:=c;cases callee with
  | builtin b=>exact h
  | value f=>
   simp only[ND] at h ⊢;split at h
   ·exact hc _ _ _ _ h
   ·simp at h
  | invoke x n=>simp[ND,J5] at h
 | _=>exact h
theorem gZ {E:Env} {L:A0} {cf L4:Co} (hc:UP cf L4) {st st':St} {o:Oper} (h:NP E L cf st o=some st'):NP E L L4 st o=some st':=by
 unfold NP at h ⊢;split at h
 ·rename_i v s h1
  rw[Wr hc h1];exact h
 ·simp at h
theorem nN {E:Env} {L:A0} {cf L4:Co} (hc:UP cf L4) {ops:Array Oper}:∀ (n:Nat) (l:List Oper),l.length<=n->∀ (st st':St),Ip E L cf ops l st=some st'->Ip E L L4 ops l st=some st':=by
 intro n
 induction n with
 | zero=>
  intro l hl st st' h;have:l=[]:=Mh.1 (by omega);subst this;exact h
 | succ n ih=>
  intro l hl st st' h;cases l with
  | nil=>exact h
  | cons o rest=>
   have hl':rest.length<=n:=by simpa using hl
   have one:(match E6 ops st.ρ o with
     | some true=>match NP E L cf st o with
      | some st=>Ip E L cf ops rest st
      | none=>none
     | some false=>match Kb st o.dst (.tuple []) with
      | some st=>Ip E L cf ops rest st
      | none=>none
     | none=>none)=some st'->(match E6 ops st.ρ o with
     | some true=>match NP E L L4 st o with
      | some st=>Ip E L L4 ops rest st
      | none=>none
     | some false=>match Kb st o.dst (.tuple []) with
      | some st=>Ip E L L4 ops rest st
      | none=>none
     | none=>none)=some st':=by
    intro h;split at h
    ·split at h
     ·rename_i E7 h1
      rw[gZ hc h1];exact ih rest hl' _ _ h
     ·simp at h
    ·split at h
     ·exact ih rest hl' _ _ h
     ·simp at h
    ·simp at h
   match rest,hl',h,one with
   | [],hl',h,one=>
    rw[Ip] at h ⊢ <;> first|exact one h|simp
   | [o1],hl',h,one=>
    rw[Ip] at h ⊢ <;> first|exact one h|simp
   | o1::o2::rest',hl',h,one=>
    rw[Ip] at h ⊢;cases hk:fused o o1 o2 with
    | none=>rw[hk] at h; exact one h
    | some k=>
     simp only[hk] at h ⊢;cases h1:Kf E L st.ρ st.s k with
     | some q=>
      obtain⟨v,s⟩:=q;simp only[h1] at h ⊢;cases h2:LK st k v s with
      | some E7=>
       simp only[h2] at h ⊢;exact ih rest' (by simp at hl'; omega) _ _ h
      | none=>simp[h2] at h
     | none=>
      simp only[h1] at h ⊢;exact one h
theorem nO {E:Env} {L:A0} {cf L4:Co} (hc:UP cf L4) {ops:Array Oper} {ρ:Nat->AV} {s:AK} {o:Oper} {r:AV×AK} (h:Nl E L cf ops ρ s o=some r):Nl E L L4 ops ρ s o=some r:=by
 unfold Nl at h ⊢;cases hg:E6 ops ρ o with
 | none=>rw[hg] at h; simp at h
 | some b=>
  rw[hg] at h;cases b with
  | true=>exact Wr hc h
  | false=>exact h
theorem IB {E:Env} {L:A0} {cf L4:Co} (hc:UP cf L4) {ops:Array Oper} {cls:List c9}:∀ (l:List Nat) (st:St) (acc:List AK) (r:St×List AK),G2 E L cf ops cls l st acc=some r->G2 E L L4 ops cls l st acc=some r
 | [],st,acc,r,h=>h
 | i::rest,st,acc,r,h=>by
  simp only[G2] at h ⊢;cases ho:ops[i]? with
  | none=>simp[ho] at h
  | some o=>
   cases Bu:cls[i]? with
   | none=>simp[ho,Bu] at h
   | some c=>
    simp only[ho,Bu] at h ⊢;cases c with
    | q ts=>
     simp only at h ⊢;cases h1:FQ E L ops st.ρ st.s o with
     | none=>simp[h1] at h
     | some v=>
      simp only[h1] at h ⊢;cases h2:Kb st o.dst v with
      | none=>simp[h2] at h
      | some E7=>
       simp only[h2] at h ⊢;exact IB hc rest _ _ _ h
    | w k=>
     simp only at h ⊢;cases h1:Nl E L cf ops st.ρ st.s o with
     | none=>simp[h1] at h
     | some v=>
      obtain⟨v,s⟩:=v;simp only[h1,nO hc h1] at h ⊢;cases h2:Kb { st with s:=s } o.dst v with
      | none=>simp[h2] at h
      | some E7=>
       simp only[h2] at h ⊢;exact IB hc rest _ _ _ h
    | fa k j x=>
     simp only at h ⊢;cases hj:ops[j]? with
     | none=>simp[hj] at h
     | some o1=>
      cases hx:ops[x]? with
      | none=>simp[hj,hx] at h
      | some o2=>
       simp only[hj,hx] at h ⊢;cases hk:fused o o1 o2 with
       | none=>simp[hk] at h
       | some q=>
        simp only[hk] at h ⊢;cases h1:NQ E L st.ρ st.s q with
        | none=>simp[h1] at h
        | some v=>
         obtain⟨v,s⟩:=v;simp only[h1] at h ⊢;cases h2:LK st q v s with
         | none=>simp[h2] at h
         | some E7=>
          simp only[h2] at h ⊢;exact IB hc rest _ _ _ h
    | fj=>exact IB hc rest _ _ _ h
    | fx=>exact IB hc rest _ _ _ h
    | h ts=>simp at h
theorem Yx {E:Env} {L:A0} {cf L4:Co} (hc:UP cf L4) {ops:Array Oper} {st st':St} {p:Option Bg} (h:I7 E L cf ops st p=some st'):I7 E L L4 ops st p=some st':=by
 cases p with
 | none=>simp[I7] at h
 | some p=>
  simp only[I7,ZE] at h ⊢;cases h0:Iq E L ops p.cls p.first st with
  | none=>simp[h0] at h
  | some oG=>
   simp only[h0] at h ⊢;cases h1:G2 E L cf ops p.cls p.rest oG [oG.s] with
   | none=>simp[h1] at h
   | some q=>
    simp only[h1,IB hc _ _ _ _ h1] at h ⊢;exact h
theorem Pb {f f':Nat->List PV->AK->Option (Out×AK)} {rows:List (List PV)} (hf:∀ j row s r,f j row s=some r->f' j row s=some r):∀ (j:Nat) (s:AK) (r:Out×AK),Fy f rows j s=some r->Fy f' rows j s=some r
 | 0,s,r,h=>h
 | j+1,s,r,h=>by
  simp only[Fy] at h ⊢;cases hr:rows[j]? with
  | none=>rw[hr] at h; simp at h
  | some row=>
   rw[hr] at h;simp only at h ⊢;cases hx:f j row s with
   | none=>rw[hx] at h; simp at h
   | some q=>
    rw[hx] at h;simp only[hf _ _ _ _ hx];obtain⟨o,s1⟩:=q;cases o with
    | norm=>exact Pb hf j s1 r h
    | exit i=>exact h
    | ret=>exact h
theorem cY {P:Program} {ev ev':Code->St->Option (Out×St)} {a b:Code} {st:St} {p q:Nat} {el:TypeId} (he:∀ c st r,ev c st=some r->ev' c st=some r) (j:Nat) (row:List PV) (s:AK) (r:Out×AK)
  (h:F5 P ev a b st p q el j row s=some r):F5 P ev' a b st p q el j row s=some r:=by
 unfold F5 at h ⊢;split at h
 ·split at h
  ·rename_i h1
   simp only[he _ _ _ h1];split at h
   ·rename_i h2
    simp only[he _ _ _ h2];exact h
   ·simp at h
  ·simp at h
 ·simp at h
theorem wG {E:Env} {cf L4:A0->Co} {L:A0} (hc:UP (cf L) (L4 L)):∀ (n m:Nat),n<=m->∀ (c:Code) (st:St) (r:Out×St),HV E cf n L c st=some r->HV E L4 m L c st=some r:=by
 intro n
 induction n with
 | zero=>intro m _ c st r h; simp[HV] at h
 | succ n ih=>
  intro m hm c st r h;obtain⟨m,rfl⟩:∃ m',m=m'+1:=⟨m-1,by omega⟩;have hm':n<=m:=by omega
  cases c with
  | skip=>exact h
  | ret=>exact h
  | exit id=>exact h
  | region id ops d=>
   cases d with
   | false=>
    simp only[HV] at h ⊢;split at h
    ·rename_i h1
     simp only[nN hc _ _ (AL _) _ _ h1];exact h
    ·simp at h
   | true=>
    simp only[HV] at h ⊢;split at h
    ·rename_i h1
     simp only[Yx hc h1];exact h
    ·simp at h
  | seq a b=>
   simp only[HV] at h ⊢;split at h
   ·rename_i h1
    simp only[ih m hm' _ _ _ h1];exact ih m hm' _ _ _ h
   ·rename_i hne
    cases ha:HV E cf n L a st with
    | none=>rw[ha] at h; simp at h
    | some q=>
     rw[ha] at h;simp only[ih m hm' _ _ _ ha];obtain⟨o,E7⟩:=q;cases o with
     | norm=>exact absurd ha (hne E7)
     | exit j=>exact h
     | ret=>exact h
  | cond c a b=>
   simp only[HV] at h ⊢;split at h
   ·exact ih m hm' _ _ _ h
   ·simp at h
  | block id b=>
   simp only[HV] at h ⊢;cases ha:HV E cf n L b st with
   | none=>rw[ha] at h; simp at h
   | some q=>
    rw[ha] at h;simp only[ih m hm' _ _ _ ha];exact h
  | loop b=>
   simp only[HV] at h ⊢;split at h
   ·rename_i h1
    simp only[ih m hm' _ _ _ h1];exact ih m hm' _ _ _ h
   ·rename_i hne
    cases ha:HV E cf n L b st with
    | none=>rw[ha] at h; simp at h
    | some q=>
     rw[ha] at h;simp only[ih m hm' _ _ _ ha];obtain⟨o,E7⟩:=q;cases o with
     | norm=>exact absurd ha (hne E7)
     | exit j=>exact h
     | ret=>exact h
  | rangeFunc g ps a b=>
   simp only[HV] at h ⊢;split at h
   ·split at h
    ·split at h
     ·rename_i rows _
      cases hq:(Nat.ble L.ro _&&(Hi a&&(Hi b&&(Nat.blt _ st.N&&(Nat.blt _ st.N&&(!Nat.beq _ _&&(Nat.ble rows.length 1000000000000000000&&(Dd E.P _).isSome))))))) with
      | false=>rw[hq] at h; simp at h
      | true=>
       rw[hq] at h;simp only[AE] at h ⊢;split at h
       ·rename_i h1
        simp only[Pb (cY fun c st r=>ih m hm' c st r) _ _ _ h1];exact h
       ·simp at h
     ·simp at h
    ·simp at h
   ·simp at h
  | _=>simp[HV] at h
theorem Lo {E:Env} {cf L4:A0->Co} {n m:Nat} (hm:n<=m) {fn:Func} {L:A0} (hc:UP (cf L) (L4 L)) {args:List AV} {s:AK} {r:AV×AK} (h:Iv E cf n fn L args s=some r):Iv E L4 m fn L args s=some r:=by
 unfold Iv at h ⊢;cases hb:fn.body with
 | none=>rw[hb] at h; simp at h
 | some body=>
  simp only[hb] at h ⊢;cases he:HV E cf n L body ⟨fn.ntmps,initρ args,s⟩ with
  | none=>rw[he] at h; simp at h
  | some q=>
   rw[he] at h;simp only[wG hc n m hm _ _ _ he];exact h
theorem UQ {E:Env} {cf L4:A0->Co} {n m:Nat} (hm:n<=m) {f:FuncId} {fn:Func} (hc:∀ L,UP (cf L) (L4 L)) {args:List AV} {s:AK} {r:AV×AK} (h:Iw E cf n f fn args s=some r):Iw E L4 m f fn args s=some r:=by
 unfold Iw at h ⊢;split at h
 ·rename_i h1
  rw[Lo hm (hc _) h1];exact h
 ·simp at h
theorem RK {E:Env} {cf L4:A0->Co} {n m:Nat} (hm:n<=m) {L:A0} {f:FuncId} {fn:Func} (hc:∀ L,UP (cf L) (L4 L)) {args:List AV} {s:AK} {r:AV×AK} (h:D3 E cf n L f fn args s=some r):D3 E L4 m L f fn args s=some r:=by
 unfold D3 at h ⊢;split at h
 ·rename_i hl
  rw[if_pos hl]
  have wr:∀ b:Bool,(bif b then Iw E cf n f fn args s else
   match Iv E cf n fn ⟨0,L.ro,L.rt,E.mu f,E.rr f,E.plan f⟩ args s with
   | some (v,s')=>NR (L.rr f) s.bs.length v s'
   | none=>none)=some r->(bif b then Iw E L4 m f fn args s else
   match Iv E L4 m fn ⟨0,L.ro,L.rt,E.mu f,E.rr f,E.plan f⟩ args s with
   | some (v,s')=>NR (L.rr f) s.bs.length v s'
   | none=>none)=some r:=by
   intro b h;cases b with
   | true=>exact UQ hm hc h
   | false=>
    simp only[AB] at h ⊢;split at h
    ·rename_i h1
     rw[Lo hm (hc _) h1];exact h
    ·simp at h
  cases hk:E.kind f with
  | esc=>
   simp only[hk] at h ⊢;exact Lo hm (hc _) h
  | rd=>
   simp only[hk] at h ⊢;cases Bu:AN [] 0 0 args with
   | some args'=>
    simp only[Bu] at h ⊢;exact UQ hm hc h
   | none=>
    simp only[Bu] at h ⊢;split at h
    ·rename_i h1
     rw[Lo hm (hc _) h1];exact h
    ·simp at h
  | im=>
   simp only[hk] at h ⊢;exact wr _ h
  | st=>
   simp only[hk] at h ⊢;exact wr _ h
 ·simp at h
theorem gi {E:Env}:∀ (n m:Nat),n<=m->∀ L,UP (Cw E n L) (Cw E m L):=by
 intro n
 induction n with
 | zero=>intro m _ L f args s r h; simp[Cw] at h
 | succ n ih=>
  intro m hm L f args s r h;obtain⟨m,rfl⟩:∃ m',m=m'+1:=⟨m-1,by omega⟩;have hm':n<=m:=by omega
  simp only[Cw] at h ⊢;cases hf:E.P.funcs[f]? with
  | none=>simp[hf] at h
  | some fn=>
   simp only[hf] at h ⊢;cases hc:E.clone f with
   | true=>
    rw[hc] at h;simp only[AE,L8] at h ⊢;cases ht:E.told f with
    | some T=>rw[ht] at h; exact h
    | none=>
     rw[ht] at h;simp only at h ⊢;cases he:Gl args with
     | true=>rw[he] at h; exact h
     | false=>
      rw[he] at h;exact RK hm' (ih m hm') h
   | false=>
    rw[hc] at h;exact RK hm' (ih m hm') h
theorem BC.iB {E:Env} {n:Nat} {L:A0} {f:FuncId} {args:List AV} {s s':AK} {v:AV} (h:Cw E n L f args s=some (v,s')):BC E L f args s v s':=
 ⟨n,fun m hm=>gi n m hm L f args s (v,s') h⟩
def AW (E:Env) (f:FuncId) (args:List AV) (Post:AV->Prop):Prop:=∃ v,Post v/\∀ L s,BC E L f args s v s
def FZ:Nat->List AV->En
 | _,[]=>[]
 | i,v::vs=>(i,v)::FZ (i+1) vs
theorem Ws:∀ (i:Nat) (vs:List AV) (t:Nat) (v:AV),Fo (FZ i vs) t=some v->i<=t/\initρ vs (t-i)=v
 | i,[],t,v,h=>by simp[FZ,Fo] at h
 | i,u::vs,t,v,h=>by
  simp only[FZ,Fo] at h;cases hb:Nat.beq t i with
  | true=>
   rw[hb] at h;simp at h; subst h;have:=BM hb;subst this;simp[initρ]
  | false=>
   rw[hb] at h;obtain⟨h1,h2⟩:=Ws (i+1) vs t v h;refine⟨by omega,?_⟩;have:t-i=(t-(i+1))+1:=by omega
   rw[this];exact h2
theorem gj (vs:List AV):Ik (Fo (FZ 0 vs)) (initρ vs):=fun t v h=>(Ws 0 vs t v h).2
theorem Li {E:Env} {L:A0} {fn:Func} {body:Code} {args:List AV} {s:AK} {QR:AV->AK->Prop} (hb:fn.body=some body) (h:Wp E L fn.ntmps fn.results.toList body [] (FZ 0 args) s QR) :
  ∃ v s' n,(∀ m,n<=m->Iv E (Cw E m) m fn L args s=some (v,s'))/\QR v s':=by
 obtain⟨o,st,⟨n,h1⟩,ho,vs,h2,h3⟩:=h _ (gj args);refine⟨JS vs,st.s,n,fun m hm=>?_,h3⟩;unfold Iv;simp only[hb,h1 m m hm hm];cases o with
 | norm=>simp only[h2]
 | ret=>simp only[h2]
 | exit id=>exact absurd rfl (ho id)
section
variable {E:Env} {f:FuncId} {fn:Func} {body:Code} {args args':List AV}
def Ca (E:Env) (f:FuncId) (n0 ro rt:Nat):A0:=⟨n0,ro,rt,E.mu f,E.rr f,E.plan f⟩
theorem K5 {L:A0} {s s':AK} {v:AV} {n:Nat} (hfn:E.P.funcs[f]?=some fn) (hc:E.clone f=false) (h:∀ m,n<=m->D3 E (Cw E m) m L f fn args s=some (v,s')):BC E L f args s v s':=by
 refine⟨n+1,fun m hm=>?_⟩;obtain⟨m,rfl⟩:∃ m',m=m'+1:=⟨m-1,by omega⟩;simp only[Cw,hfn,hc,AB];exact h m (by omega)
def QP (Post:AV->Prop) (r:AV) (s:AK):Prop:=∃ v,close s.bs 0 0 r=some v/\Post v
def QI (n m:Nat) (Post:AV->Prop) (r:AV) (s:AK):Prop:=∃ v,close s.bs n m r=some v/\Post v
def QM (rr:Bool) (n:Nat) (Post:AV->AK->Prop) (r:AV) (s:AK):Prop:=∃ v s',NR rr n r s=some (v,s')/\Post v s'
theorem kq {Post:AV->Prop} (hb:fn.body=some body)
  (h:Wp E (Ca E f 0 0 0) fn.ntmps fn.results.toList body [] (FZ 0 args) ⟨[],[]⟩ (QP Post)) :
  ∃ v n,Post v/\∀ s m,n<=m->Iw E (Cw E m) m f fn args s=some (v,s):=by
 obtain⟨r,s',n,h1,v,h2,h3⟩:=Li hb h;refine⟨v,n,h3,fun s m hm=>?_⟩;unfold Iw;have:=h1 m hm;unfold Ca at this;simp only[this,h2]
theorem AAN {Post:AV->Prop} (hfn:E.P.funcs[f]?=some fn) (hb:fn.body=some body) (hk:E.kind f=.rd) (hc:E.clone f=false) (hl:args.length<=fn.ntmps) (Bu:AN [] 0 0 args=some args')
  (h:Wp E (Ca E f 0 0 0) fn.ntmps fn.results.toList body [] (FZ 0 args') ⟨[],[]⟩ (QP Post)):AW E f args Post:=by
 obtain⟨v,n,h1,h2⟩:=kq hb h;refine⟨v,h1,fun L s=>K5 (n:=n) hfn hc fun m hm=>?_⟩;unfold D3;simp only[if_pos hl,hk,Bu];exact h2 s m hm
theorem Ij {Post:AV->Prop} (hfn:E.P.funcs[f]?=some fn) (hb:fn.body=some body) (hk:E.kind f=.im) (hc:E.clone f=false) (hl:args.length<=fn.ntmps) (hn:BN args=true)
  (h:Wp E (Ca E f 0 0 0) fn.ntmps fn.results.toList body [] (FZ 0 args) ⟨[],[]⟩ (QP Post)):AW E f args Post:=by
 obtain⟨v,n,h1,h2⟩:=kq hb h;refine⟨v,h1,fun L s=>K5 (n:=n) hfn hc fun m hm=>?_⟩;unfold D3;simp only[if_pos hl,hk,hn,AE];exact h2 s m hm
theorem AAO {L:A0} {s:AK} {Post:AV->AK->Prop} (hfn:E.P.funcs[f]?=some fn) (hb:fn.body=some body) (hk:E.kind f=.im) (hc:E.clone f=false) (hl:args.length<=fn.ntmps) (hn:BN args=false)
  (h:Wp E (Ca E f 0 L.ro L.rt) fn.ntmps fn.results.toList body [] (FZ 0 args) s (QM (L.rr f) s.bs.length Post)) :
  ∃ v s',Post v s'/\BC E L f args s v s':=by
 obtain⟨r,s',n,h1,v,s'',h2,h3⟩:=Li hb h;refine⟨v,s'',h3,K5 (n:=n) hfn hc fun m hm=>?_⟩;unfold D3;have:=h1 m hm;unfold Ca at this;simp only[if_pos hl,hk,hn,AB,this,h2]
theorem ANG {L:A0} {s:AK} {Post:AV->AK->Prop} (hfn:E.P.funcs[f]?=some fn) (hb:fn.body=some body) (hk:E.kind f=.st) (hc:E.clone f=false) (hl:args.length<=fn.ntmps)
  (h:Wp E (Ca E f 0 L.ro L.rt) fn.ntmps fn.results.toList body [] (FZ 0 args) s (QM (L.rr f) s.bs.length Post)) :
  ∃ v s',Post v s'/\BC E L f args s v s':=by
 obtain⟨r,s',n,h1,v,s'',h2,h3⟩:=Li hb h;refine⟨v,s'',h3,K5 (n:=n) hfn hc fun m hm=>?_⟩;unfold D3;have:=h1 m hm;unfold Ca at this;simp only[if_pos hl,hk,AB,this,h2]
theorem wJ {L:A0} {s:AK} {Post:AV->AK->Prop} (hfn:E.P.funcs[f]?=some fn) (hb:fn.body=some body) (hk:E.kind f=.esc) (hc:E.clone f=false) (hl:args.length<=fn.ntmps)
  (h:Wp E (Ca E f L.n0 L.ro L.rt) fn.ntmps fn.results.toList body [] (FZ 0 args) s Post) :
  ∃ v s',Post v s'/\BC E L f args s v s':=by
 obtain⟨r,s',n,h1,h2⟩:=Li hb h;refine⟨r,s',h2,K5 (n:=n) hfn hc fun m hm=>?_⟩;unfold D3;have:=h1 m hm;unfold Ca at this;simp only[if_pos hl,hk];exact this
theorem wK {s:AK} {Post:AV->Prop} (hfn:E.P.funcs[f]?=some fn) (hb:fn.body=some body) (hk:E.kind f=.rd) (hc:E.clone f=false) (hl:args.length<=fn.ntmps) (Bu:AN [] 0 0 args=none)
  (h:Wp E (Ca E f s.bs.length s.bs.length s.ts.length) fn.ntmps fn.results.toList body [] (FZ 0 args) s (QI s.bs.length s.ts.length Post)) :
  ∃ v,Post v/\∀ L,BC E L f args s v s:=by
 obtain⟨r,s',n,h1,v,h2,h3⟩:=Li hb h;refine⟨v,h3,fun L=>K5 (n:=n) hfn hc fun m hm=>?_⟩;unfold D3;have:=h1 m hm;unfold Ca at this;simp only[if_pos hl,hk,Bu,this,h2]
end
theorem nZ {A B:Prop} (h:A) (e:A=B):B:=e ▸ h
theorem AI {E:Env} {L:A0} {f:FuncId} {args:List AV} {s:AK} {K:AV->AK->Prop} {Post:AV->Prop} (h:AW E f args Post) (hK:∀ v,Post v->K v s):Fe E L (.func (.func f) [] []) args s K:=by
 obtain⟨v,h1,h2⟩:=h;refine⟨v,s,?_,hK v h1⟩;simpa using h2 L s
theorem CR {E:Env} {L:A0} {f:FuncId} {args:List AV} {s:AK} {K:AV->AK->Prop} {Post:AV->AK->Prop} (h:∃ v s',Post v s'/\BC E L f args s v s') (hK:∀ v s',Post v s'->K v s'):Fe E L (.func (.func f) [] []) args s K:=by
 obtain⟨v,s',h1,h2⟩:=h;refine⟨v,s',?_,hK v s' h1⟩;simpa using h2
end Go.Tel
