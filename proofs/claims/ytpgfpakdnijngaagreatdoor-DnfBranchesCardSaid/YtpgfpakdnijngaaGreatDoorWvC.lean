/-
  What a piece of code needs is enough; calls.
-/
import Derived.Test.YtpgfpakdnijngaaGreatDoorWvB
import Derived.Test.YtpgfpakdnijngaaGreatDoorEvI
set_option linter.all false
namespace Go.Tel
open Option renaming some->Y,none->G
open Bool renaming true->Z,false->ϴ
open Go renaming Oper->ϡ,FuncId->ϣ
def Cs.seq {E:Env} {L:Ba} {a b:Code} {st GD qk:St} {o:Out} (d:Cs E L a st .norm GD) (e:Cs E L b GD o qk):Cs E L (.seq a b) st o qk:=by
 obtain⟨i,d⟩:=d;obtain⟨j,e⟩:=e;refine⟨i+j+1,λm k hm n=>?_⟩;obtain⟨k,rfl⟩:∃l,k=l+1:=⟨k-1,AA⟩
 grind[JA]
def Cs.ABA {E:Env} {L:Ba} {a b:Code} {st GD:St} {o:Out} (d:Cs E L a st o GD) (j:o≠.norm):Cs E L (.seq a b) st o GD:=by
 obtain⟨e,d⟩:=d;refine⟨e+1,λm k hm l=>?_⟩;obtain⟨k,rfl⟩:∃i,k=i+1:=⟨k-1,AA⟩
 grind[JA]
def Cs.loop {E:Env} {L:Ba} {b:Code} {st GD qk:St} {o:Out} (d:Cs E L b st .norm GD) (e:Cs E L (.loop b) GD o qk):Cs E L (.loop b) st o qk:=by
 obtain⟨i,d⟩:=d;obtain⟨j,e⟩:=e;refine⟨i+j+1,λm k hm n=>?_⟩;obtain⟨k,rfl⟩:∃l,k=l+1:=⟨k-1,AA⟩
 grind[JA]
def Cs.AEq {E:Env} {L:Ba} {b:Code} {st GD:St} {o:Out} (d:Cs E L b st o GD) (j:o≠.norm):Cs E L (.loop b) st o GD:=by
 obtain⟨e,d⟩:=d;refine⟨e+1,λm k hm l=>?_⟩;obtain⟨k,rfl⟩:∃i,k=i+1:=⟨k-1,AA⟩
 grind[JA]
def ABB (id:Nat):Out->Out
 | .exit j=>bif Nat.beq j id then .norm else .exit j
 | o=>o
def Cs.block {E:Env} {L:Ba} {id:Nat} {b:Code} {st GD:St} {o:Out} (d:Cs E L b st o GD):Cs E L (.block id b) st (ABB id o) GD:=by
 obtain⟨e,d⟩:=d;refine⟨e+1,λm k hm l=>?_⟩;obtain⟨k,rfl⟩:∃i,k=i+1:=⟨k-1,AA⟩;simp only[JA,d m k AA AA];cases o with
 | exit j=>grind[ABB]
 | norm=>rfl
 | ret=>rfl
def Cs.simple {E:Env} {L:Ba} {c:Code} {st GD:St} {o:Out} (h:∀b k,JA E b (k+1) L c st=Y (o,GD)):Cs E L c st o GD:=by
 refine⟨1,λm k hm e=>?_⟩;obtain⟨k,rfl⟩:∃d,k=d+1:=⟨k-1,AA⟩
 grind
def Cs.cond {E:Env} {L:Ba} {c:Operand} {a b:Code} {st GD:St} {o:Out} {t:Bool} (i:A1 st.U c=.pv (.sc (.bool t))) (h:Cs E L (bif t then a else b) st o GD):Cs E L (.cond c a b) st o GD:=by
 obtain⟨d,j⟩:=h;refine⟨d+1,λm k hm l=>?_⟩;obtain⟨k,rfl⟩:∃e,k=e+1:=⟨k-1,AA⟩
 grind[JA]
def Cs.region {E:Env} {L:Ba} {id:Nat} {b:Array ϡ} {st GD:St} {n:Nat} (h:∀m,n<=m->JD E L (Dk E m L) b b.toList st=Y GD):Cs E L (.region id b ϴ) st .norm GD:=by
 refine⟨n+1,λm k hm e=>?_⟩;obtain⟨k,rfl⟩:∃d,k=d+1:=⟨k-1,AA⟩
 grind[JA]
def Cs.draws {E:Env} {L:Ba} {id:Nat} {b:Array ϡ} {st GD:St} {n:Nat} {p:B3} (e:L.pl id=Y p) (h:∀m,n<=m->Yx E L (Dk E m L) p b st=Y GD):Cs E L (.region id b Z) st .norm GD:=by
 have hf:∃st0,J0 E L b p.cls p.first st=Y st0:=by
  have:=h n (AU n)
  grind[Yx]
 obtain⟨st0,hf⟩:=hf;refine⟨n+1,λm k hm i=>?_⟩;obtain⟨k,rfl⟩:∃d,k=d+1:=⟨k-1,AA⟩
 grind[JA,rI,Kj]
def SR.ret {E:Env} {L:Ba} {Q:Out->St->Prop} {st:St} (h:Q .ret st):∀d,SR E L Q d .ret st
 | []=>h
 | .seq b::d=>SR.ret h d
 | .blk id::d=>SR.ret h d
 | .loop b::d=>SR.ret h d
def Hh.prune {lv:Nat->Ϟ} {c:Code} {env:En} {U:Nat->AV} (h:Hh (EN env) U):Hh (EN (prune lv c env)) U:=by
 unfold Tel.prune;split
 .rename_i k e
  have:∀l:Ϟ,Hh (EN (l.filterMap λt=>match EN env t with
    | some v=>Y (t,v)
    | none=>G)) U:=by
   intro l
   induction l with
   | nil=>intro t v b; simp_all
   | cons x l d=>
    simp only[List.filterMap_cons];cases hx:EN env x with
    | none=>omega
    | some u=>
     intro t v b;simp only[EN] at b;cases hb:Nat.beq t x with
     | true=>
      rw[hb] at b;simp at b;rw[CV hb,<-b];exact h x u hx
     | false=>rw[hb] at b; exact d t v b
  exact this (lv k)
 omega
def PN {E:Env} {N:Nat} {lk:Lk} {U:Nat->AV} {s:AY} (hA:Hh lk U):∀(rs:List ResultVar) (K:Ϭ->Prop),fR E lk s rs K->∃vs,GI E ⟨N,U,s⟩ rs=Y vs/\K vs
 | [],K,h=>⟨[],rfl,h⟩
 | .tmp t::rs,K,h=>by
  have⟨v,b,d⟩:=Bm h;have⟨vs,e,i⟩:=PN (N:=N) hA rs _ d;exact⟨_,by simp only[GI,Nx,e,hA t v b],i⟩
 | .cell a t::rs,K,h=>by
  have⟨v,b,h⟩:=Bm h;have⟨k,d,h⟩:=Bm h;have⟨u,e,h⟩:=AEp d h;have⟨vs,i,j⟩:=PN (N:=N) hA rs _ h;exact⟨_,by simp only[GI,Nx,i,hA a v b,e],j⟩
section
variable {E:Env} {L:Ba} {N:Nat} {lv:Nat->Ϟ} {ct:Nat->Bool} {rs:List ResultVar} {QR:Ϡ}
def aV {env:En} {U:Nat->AV} {s:AY} (hA:Hh (EN env) U) (h:fR E (EN env) s rs λvs=>QR (H9 vs) s) {o:Out} (b:∀id,o≠.exit id):Fin E rs QR o ⟨N,U,s⟩:=by
 have⟨vs,d,e⟩:=PN (N:=N) hA rs _ h;exact⟨b,vs,d,e⟩
def FR:∀(d:List Frame) (env:En) (s:AY) (U:Nat->AV),Hh (EN env) U ->
  (y5 E L N lv rs QR d G env s->SR E L (Fin E rs QR) d .norm ⟨N,U,s⟩)/\(∀j,y5 E L N lv rs QR d (Y j) env s->SR E L (Fin E rs QR) d (.exit j) ⟨N,U,s⟩)
 | [],env,s,U,hA=>⟨λh=>aV hA h (λ_=>by simp),λj h=>h.elim⟩
 | .seq b::d,env,s,U,hA=>by
  refine⟨λh=>?_,λj h=>?_⟩
  .have ret:fR E (EN env) s rs (λi=>QR (H9 i) s)->∃o e,Cs E L .ret ⟨N,U,s⟩ o e/\SR E L (Fin E rs QR) d o e:=λh=>
    ⟨.ret,_,Cs.simple λ_ _=>rfl,SR.ret (aV hA h (λ_=>by simp)) d⟩
   have skip:y5 E L N lv rs QR d G env s->∃o e,Cs E L .skip ⟨N,U,s⟩ o e/\SR E L (Fin E rs QR) d o e:=λh=>
    ⟨.norm,_,Cs.simple λ_ _=>rfl,(FR d env s U hA).1 h⟩
   have ex:∀j,y5 E L N lv rs QR d (Y j) env s->∃o e,Cs E L (.exit j) ⟨N,U,s⟩ o e/\SR E L (Fin E rs QR) d o e:=λj h=>
    ⟨.exit j,_,Cs.simple λ_ _=>rfl,(FR d env s U hA).2 j h⟩
   have any:∀b,Wp E L N rs b d (prune lv b env) s QR->∃o e,Cs E L b ⟨N,U,s⟩ o e/\SR E L (Fin E rs QR) d o e:=λb h=>h U hA.prune
   grind[SR]
  .exact(FR d env s U hA).2 j h
 | .blk id::d,env,s,U,hA=>by
  refine⟨λh=>?_,λj h=>?_⟩
  .exact(FR d env s U hA).1 h
  .change (match Nat.beq j id with|true=>y5 E L N lv rs QR d G env s|false=>y5 E L N lv rs QR d (Y j) env s) at h
   show(bif Nat.beq j id then SR E L (Fin E rs QR) d .norm ⟨N,U,s⟩ else SR E L (Fin E rs QR) d (.exit j) ⟨N,U,s⟩)
   cases hb:Nat.beq j id with
   | true=>rw[hb] at h; exact(FR d env s U hA).1 h
   | false=>rw[hb] at h; exact(FR d env s U hA).2 j h
 | .loop b::d,env,s,U,hA=>by
  refine⟨λh=>?_,λj h=>?_⟩
  .exact h U hA.prune
  .exact(FR d env s U hA).2 j h
def Wp.seq {a b:Code} {i:List Frame} {env:En} {s:AY} (h:Wp E L N rs a (.seq b::i) env s QR):Wp E L N rs (.seq a b) i env s QR:=by
 intro U hA;have⟨o,st,d,e⟩:=h U hA;cases o with
 | norm=>
  obtain⟨o,k,l,m⟩:=e;exact⟨o,k,d.seq l,m⟩
 | exit j=>exact⟨_,_,d.ABA AD,e⟩
 | ret=>exact⟨_,_,d.ABA AD,e⟩
def Wp.loop {b:Code} {i:List Frame} {env:En} {s:AY} (h:Wp E L N rs b (.loop b::i) env s QR):Wp E L N rs (.loop b) i env s QR:=by
 intro U hA;have⟨o,st,d,e⟩:=h U hA;cases o with
 | norm=>
  obtain⟨o,k,l,m⟩:=e;exact⟨o,k,d.loop l,m⟩
 | exit j=>exact⟨_,_,d.AEq AD,e⟩
 | ret=>exact⟨_,_,d.AEq AD,e⟩
def Wp.block {id:Nat} {b:Code} {d:List Frame} {env:En} {s:AY} (h:Wp E L N rs b (.blk id::d) env s QR):Wp E L N rs (.block id b) d env s QR:=by
 intro U hA;have⟨o,st,i,e⟩:=h U hA;refine⟨_,st,i.block,?_⟩;cases o with
 | norm=>exact e
 | ret=>exact e
 | exit j=>
  grind[SR,ABB]
def wp_region {id:Nat} {i:Array ϡ} {env:En} {s:AY} {K:En->AY->Prop} (h:Vu E L N i i.toList env s K) (U:Nat->AV) (hA:Hh (EN env) U):∃b d e,Cs E L (.region id i ϴ) ⟨N,U,s⟩ .norm ⟨N,d,e⟩/\Hh (EN b) d/\K b e:=by
 have⟨b,d,e,n,j,k,l⟩:=kN _ _ (AU _) _ _ U h hA;exact⟨b,d,e,Cs.region j,k,l⟩
def Vv {id:Nat} {i:Array ϡ} {env:En} {s:AY} {K:En->AY->Prop} (h:wO (L.pl id) λp=>qY E L N p i env s K) (U:Nat->AV) (hA:Hh (EN env) U):∃b d e,Cs E L (.region id i Z) ⟨N,U,s⟩ .norm ⟨N,d,e⟩/\Hh (EN b) d/\K b e:=by
 have⟨p,j,h⟩:=Bm h;have⟨b,d,e,n,k,l,m⟩:=kO h hA;exact⟨b,d,e,Cs.draws j k,l,m⟩
def Rn:∀(c:Code) (e:List Frame) (env:En) (s:AY),wpc E L N lv ct rs QR c e env s->Wp E L N rs c e env s QR:=by
 intro c
 induction c with
 | skip=>exact λe env s h U hA=>⟨.norm,_,Cs.simple λ_ _=>rfl,(FR e env s U hA).1 h⟩
 | ret=>exact λe env s h U hA=>⟨.ret,_,Cs.simple λ_ _=>rfl,SR.ret (aV hA h (λ_=>by simp)) e⟩
 | exit j=>exact λe env s h U hA=>⟨.exit j,_,Cs.simple λ_ _=>rfl,(FR e env s U hA).2 j h⟩
 | region id A d=>
  intro e env s h U hA;cases d with
  | false=>
   have⟨p,l,r,k,m,i⟩:=wp_region (id:=id) h U hA;exact⟨.norm,_,k,(FR e p r l m).1 i⟩
  | true=>
   have⟨p,l,r,k,m,i⟩:=Vv h U hA;exact⟨.norm,_,k,(FR e p r l m).1 i⟩
 | seq a b u y=>
  intro e env s h
  have z:∀e env s,(match qd ct b with
     | true=>Wp E L N rs b e (prune lv b env) s QR
     | false=>wpc E L N lv ct rs QR b e env s)->Wp E L N rs b e env s QR:=by
   intro e env s h;cases B:qd ct b with
   | true=>
    rw[B] at h;exact λU hA=>h U hA.prune
   | false=>
    simp_all
  have D:wpc E L N lv ct rs QR a (.seq b::e) env s->Wp E L N rs (.seq a b) e env s QR:=λh=>Wp.seq (u _ _ _ h)
  cases a with
  | region id A d=>
   intro U hA;cases d with
   | false=>
    have⟨p,l,r,k,m,i⟩:=wp_region (id:=id) h U hA;have⟨o,st,n,x⟩:=z _ _ _ i l m;exact⟨o,st,k.seq n,x⟩
   | true=>
    have⟨p,l,r,k,m,i⟩:=Vv h U hA;have⟨o,st,n,x⟩:=z _ _ _ i l m;exact⟨o,st,k.seq n,x⟩
  | _=>simp[*]
 | cond c a b u y=>
  intro e env s h U hA;have⟨cv,k,h⟩:=Bm h;unfold EK at h;split at h
  .rename_i t
   cases t with
   | true=>
    have⟨o,st,i,n⟩:=u _ _ _ (h.1 rfl) U hA;exact⟨o,st,Cs.cond (Cj hA k) i,n⟩
   | false=>
    have⟨o,st,i,n⟩:=y _ _ _ (h.2 rfl) U hA;exact⟨o,st,Cs.cond (Cj hA k) i,n⟩
  simp_all
 | block id b C=>simp_all[Wp.block]
 | loop b C=>exact λe env s h U hA=>h U hA.prune
 | rangeFunc g ps a b _ _=>exact λe env s h U hA=>h U hA.prune
 | _=>simp
def qh {b:Code} {d:List Frame} {env:En} {s:AY} (h:wpc E L N lv ct rs QR b (.loop b::d) env s):Wp E L N rs (.loop b) d env s QR:=Wp.loop (Rn _ _ _ _ h)
def AK7 {A:Prop} (c:Code) (b:List Frame) (env:En) (s:AY) (h:A) (e:A=wpc E L N lv ct rs QR c b env s):Wp E L N rs c b env s QR:=Rn c b env s (e ▸ h)
end
def V1 (d b:DH):Prop:=∀f args s r,d f args s=Y r->b f args s=Y r
theorem YY {E:Env} {L:Ba} {e d:DH} (j:V1 e d) {U:Nat->AV} {s:AY} {o:ϡ} {r:AV×AY} (h:Oh E L e U s o=Y r):Oh E L d U s o=Y r:=by
 obtain⟨dst,op,l,pos,k,guard⟩:=o;cases op with
 | call c=>
  obtain⟨i,args,ts⟩:=c;cases i with
  | builtin b=>exact h
  | value f=>
   simp only[Oh] at h ⊢;split at h
   .exact j _ _ _ _ h
   omega
  | invoke x n=>assumption
 | _=>exact h
theorem kP {E:Env} {L:Ba} {e b:DH} (i:V1 e b) {st d:St} {o:ϡ} (h:OT E L e st o=Y d):OT E L b st o=Y d:=by grind[OT,YY]
def qi {E:Env} {L:Ba} {j i:DH} (y:V1 j i) {b:Array ϡ}:∀(n:Nat) (l:List ϡ),l.length<=n->∀(st e:St),JD E L j b l st=Y e->JD E L i b l st=Y e:=by
 intro n
 induction n with
 | zero=>
  intro l r st e h;have:l=[]:=kj.1 AA;subst this;exact h
 | succ n z=>
  intro l r st e h;cases l with
  | nil=>exact h
  | cons o d=>
   have m:d.length<=n:=AB
   have one:(match FZ b st.U o with
     | some Z=>match OT E L j st o with
      | some st=>JD E L j b d st
      | none=>G
     | some ϴ=>match LO st o.dst (.tuple []) with
      | some st=>JD E L j b d st
      | none=>G
     | none=>G)=Y e->(match FZ b st.U o with
     | some Z=>match OT E L i st o with
      | some st=>JD E L i b d st
      | none=>G
     | some ϴ=>match LO st o.dst (.tuple []) with
      | some st=>JD E L i b d st
      | none=>G
     | none=>G)=Y e:=by
    intro h;split at h
    .grind[kP]
    .grind
    .omega
   match d,m,h,one with
   | [],m,h,one=>
    rw[JD] at h ⊢ <;> first|exact one h|simp
   | [o1],m,h,one=>
    rw[JD] at h ⊢ <;> first|exact one h|simp
   | o1::t::x,m,h,one=>
    rw[JD] at h ⊢;cases p:fused o o1 t with
    | none=>rw[p] at h; exact one h
    | some k=>
     simp only[p] at h ⊢;cases u:Jy E L st.U st.s k with
     | some q=>
      grind
     | none=>
      simp only[u] at h ⊢;exact one h
def qj {E:Env} {L:Ba} {e b:DH} (i:V1 e b) {d:Array ϡ} {U:Nat->AV} {s:AY} {o:ϡ} {r:AV×AY} (h:Oi E L e d U s o=Y r):Oi E L b d U s o=Y r:=by grind[Oi,YY]
theorem IY {E:Env} {L:Ba} {t u:DH} (d:V1 t u) {b:Array ϡ} {p:List aa}:∀(l:Ϟ) (st:St) (acc:List AY) (r:St×List AY),Hp E L t b p l st acc=Y r->Hp E L u b p l st acc=Y r
 | [],st,acc,r,h=>h
 | i::m,st,acc,r,h=>by
  simp only[Hp] at h ⊢;cases z:b[i]? with
  | none=>grind
  | some o=>
   cases y:p[i]? with
   | none=>grind
   | some c=>
    simp only[z,y] at h ⊢;cases c with
    | q ts=>
     simp only at h ⊢;cases e:Fa E L b st.U st.s o with
     | none=>grind
     | some v=>
      simp only[e] at h ⊢;cases n:LO st o.dst v with
      | none=>grind
      | some GD=>
       simp only[n] at h ⊢;exact IY d m _ _ _ h
    | w k=>
     simp only at h ⊢;cases e:Oi E L t b st.U st.s o with
     | none=>grind
     | some v=>
      obtain⟨v,s⟩:=v;simp only[e,qj d e] at h ⊢;cases n:LO { st with s:=s } o.dst v with
      | none=>grind
      | some GD=>
       simp only[n] at h ⊢;exact IY d m _ _ _ h
    | fa k j x=>
     simp only at h ⊢;cases A:b[j]? with
     | none=>grind
     | some B=>
      cases hx:b[x]? with
      | none=>grind
      | some C=>
       simp only[A,hx] at h ⊢;cases D:fused o B C with
       | none=>grind
       | some q=>
        simp only[D] at h ⊢;cases e:LQ E L st.U st.s q with
        | none=>grind
        | some v=>
         obtain⟨v,s⟩:=v;simp only[e] at h ⊢;cases n:K3 st q v s with
         | none=>grind
         | some GD=>
          simp only[n] at h ⊢;exact IY d m _ _ _ h
    | fj=>exact IY d m _ _ _ h
    | fx=>exact IY d m _ _ _ h
    | h ts=>omega
theorem aY {E:Env} {L:Ba} {i b:DH} (j:V1 i b) {d:Array ϡ} {st e:St} {p:Option B3} (h:Kj E L i d st p=Y e):Kj E L b d st p=Y e:=by
 cases p with
 | none=>assumption
 | some p=>
  grind[Kj,Yx,IY]
theorem Qj {f b:Nat->Ϧ->AY->Option (Out×AY)} {rows:Ϯ} (hf:∀j row s r,f j row s=Y r->b j row s=Y r):∀(j:Nat) (s:AY) (r:Out×AY),F4 f rows j s=Y r->F4 b rows j s=Y r
 | 0,s,r,h=>h
 | j+1,s,r,h=>by
  simp only[F4] at h ⊢;cases d:rows[j]? with
  | none=>grind
  | some row=>
   rw[d] at h;simp only at h ⊢;cases hx:f j row s with
   | none=>grind
   | some q=>
    rw[hx] at h;simp only[hf _ _ _ _ hx];obtain⟨o,e⟩:=q;cases o with
    | norm=>exact Qj hf j e r h
    | exit i=>exact h
    | ret=>exact h
theorem fW {P:Program} {ev d:Code->St->Option (Out×St)} {a b:Code} {st:St} {p q:Nat} {el:TypeId} (e:∀c st r,ev c st=Y r->d c st=Y r) (j:Nat) (row:Ϧ) (s:AY) (r:Out×AY)
  (h:GJ P ev a b st p q el j row s=Y r):GJ P d a b st p q el j row s=Y r:=by grind[GJ]
theorem yg {E:Env} {i e:Ba->DH} {L:Ba} (j:V1 (i L) (e L)):∀(n m:Nat),n<=m->∀(c:Code) (st:St) (r:Out×St),JA E i n L c st=Y r->JA E e m L c st=Y r:=by
 intro n
 induction n with
 | zero=>grind[JA]
 | succ n s=>
  intro m hm c st r h;obtain⟨m,rfl⟩:∃k,m=k+1:=⟨m-1,AA⟩;have o:n<=m:=AA;cases c with
  | skip=>exact h
  | ret=>exact h
  | exit id=>exact h
  | region id p d=>
   cases d with
   | false=>
    simp only[JA] at h ⊢;split at h
    .rename_i l
     simp only[qi j _ _ (AU _) _ _ l];exact h
    grind
   | true=>
    grind[JA,aY]
  | seq a b=>
   grind[JA]
  | cond c a b=>
   grind[JA]
  | block id b=>
   grind[JA]
  | loop b=>
   grind[JA]
  | rangeFunc g ps a b=>
   simp only[JA] at h ⊢;split at h
   .split at h
    .split at h
     all_goals grind[Qj,fW]
    omega
   omega
  | _=>assumption
theorem Me {E:Env} {d b:Ba->DH} {n m:Nat} (hm:n<=m) {fn:Func} {L:Ba} (e:V1 (d L) (b L)) {args:Ϭ} {s:AY} {r:AV×AY} (h:J1 E d n fn L args s=Y r):J1 E b m fn L args s=Y r:=by grind[J1,yg]
theorem V2 {E:Env} {d b:Ba->DH} {n m:Nat} (hm:n<=m) {f:ϣ} {fn:Func} (e:∀L,V1 (d L) (b L)) {args:Ϭ} {s:AY} {r:AV×AY} (h:JJ E d n f fn args s=Y r):JJ E b m f fn args s=Y r:=by grind[JJ,Me]
theorem fX {E:Env} {e d:Ba->DH} {n m:Nat} (hm:n<=m) {L:Ba} {f:ϣ} {fn:Func} (o:∀L,V1 (e L) (d L)) {args:Ϭ} {s:AY} {r:AV×AY} (h:Ed E e n L f fn args s=Y r):Ed E d m L f fn args s=Y r:=by
 unfold Ed at h ⊢;split at h
 .rename_i l
  rw[if_pos l]
  have j:∀b:Bool,(bif b then JJ E e n f fn args s else
   match J1 E e n fn ⟨0,L.ro,L.rt,E.mu f,E.rr f,E.plan f⟩ args s with
   | some (v,i)=>IA (L.rr f) s.bs.length v i
   | none=>G)=Y r->(bif b then JJ E d m f fn args s else
   match J1 E d m fn ⟨0,L.ro,L.rt,E.mu f,E.rr f,E.plan f⟩ args s with
   | some (v,i)=>IA (L.rr f) s.bs.length v i
   | none=>G)=Y r:=by grind[V2,Me]
  cases k:E.kind f with
  | esc=>
   grind[Me]
  | rd=>
   grind[V2,Me]
  | im=>
   simp only[k] at h ⊢;exact j _ h
  | st=>
   simp only[k] at h ⊢;exact j _ h
 grind
def kQ {E:Env}:∀(n m:Nat),n<=m->∀L,V1 (Dk E n L) (Dk E m L):=by
 intro n
 induction n with
 | zero=>intro m _ L f args s r h; grind[Dk]
 | succ n d=>
  intro m hm L f args s r h;obtain⟨m,rfl⟩:∃b,m=b+1:=⟨m-1,AA⟩
  grind[Dk,Pb,fX]
def Bk.kn {E:Env} {n:Nat} {L:Ba} {f:ϣ} {args:Ϭ} {s b:AY} {v:AV} (h:Dk E n L f args s=Y (v,b)):Bk E L f args s v b:=
 ⟨n,λm hm=>kQ n m hm L f args s (v,b) h⟩
def Ah (E:Env) (f:ϣ) (args:Ϭ) (Post:AV->Prop):Prop:=∃v,Post v/\∀L s,Bk E L f args s v s
def FP:Nat->Ϭ->En
 | _,[]=>[]
 | i,v::b=>(i,v)::FP (i+1) b
def YZ:∀(i:Nat) (vs:Ϭ) (t:Nat) (v:AV),EN (FP i vs) t=Y v->i<=t/\Rq vs (t-i)=v
 | i,[],t,v,h=>by simp_all[FP]
 | i,u::vs,t,v,h=>by
  simp only[FP,EN] at h;cases hb:Nat.beq t i with
  | true=>
   simp_all[Rq]
  | false=>
   rw[hb] at h;have⟨d,b⟩:=YZ (i+1) vs t v h;refine⟨AA,?_⟩;have:t-i=(t-(i+1))+1:=AA;rw[this];exact b
def kR (vs:Ϭ):Hh (EN (FP 0 vs)) (Rq vs):=λt v h=>(YZ 0 vs t v h).2
def N6 {E:Env} {L:Ba} {fn:Func} {body:Code} {args:Ϭ} {s:AY} {QR:Ϡ} (hb:fn.body=Y body) (h:Wp E L fn.ntmps fn.results.toList body [] (FP 0 args) s QR) :
  ∃v b n,(∀m,n<=m->J1 E (Dk E m) m fn L args s=Y (v,b))/\QR v b:=by
 have⟨o,st,⟨n,i⟩,j,d,k,e⟩:=h _ (kR args);refine⟨H9 d,st.s,n,λm hm=>?_,e⟩
 grind[J1]
section
variable {E:Env} {f:ϣ} {fn:Func} {body:Code} {args args':Ϭ}
def Co (E:Env) (f:ϣ) (n0 ro rt:Nat):Ba:=⟨n0,ro,rt,E.mu f,E.rr f,E.plan f⟩
def Lt {L:Ba} {s b:AY} {v:AV} {n:Nat} (e:E.P.funcs[f]?=Y fn) (i:E.clone f=ϴ) (h:∀m,n<=m->Ed E (Dk E m) m L f fn args s=Y (v,b)):Bk E L f args s v b:=by
 refine⟨n+1,λm hm=>?_⟩;obtain⟨m,rfl⟩:∃d,m=d+1:=⟨m-1,AA⟩
 grind[Dk]
def QP (Post:AV->Prop) (r:AV) (s:AY):Prop:=∃v,close s.bs 0 0 r=Y v/\Post v
def QI (n m:Nat) (Post:AV->Prop) (r:AV) (s:AY):Prop:=∃v,close s.bs n m r=Y v/\Post v
def QM (rr:Bool) (n:Nat) (Post:Ϡ) (r:AV) (s:AY):Prop:=∃v b,IA rr n r s=Y (v,b)/\Post v b
def oQ {Post:AV->Prop} (hb:fn.body=Y body)
  (h:Wp E (Co E f 0 0 0) fn.ntmps fn.results.toList body [] (FP 0 args) ⟨[],[]⟩ (QP Post)) :
  ∃v n,Post v/\∀s m,n<=m->JJ E (Dk E m) m f fn args s=Y (v,s):=by
 have⟨r,d,n,e,v,i,b⟩:=N6 hb h;refine⟨v,n,b,λs m hm=>?_⟩
 grind[JJ,Co]
def ABI {Post:AV->Prop} (b:E.P.funcs[f]?=Y fn) (hb:fn.body=Y body) (j:E.kind f=.rd) (d:E.clone f=ϴ) (k:args.length<=fn.ntmps) (i:BZ [] 0 0 args=Y args')
  (h:Wp E (Co E f 0 0 0) fn.ntmps fn.results.toList body [] (FP 0 args') ⟨[],[]⟩ (QP Post)):Ah E f args Post:=by
 have⟨v,n,e,l⟩:=oQ hb h;refine⟨v,e,λL s=>Lt (n:=n) b d λm hm=>?_⟩
 grind[Ed]
def yh {Post:AV->Prop} (b:E.P.funcs[f]?=Y fn) (hb:fn.body=Y body) (i:E.kind f=.im) (d:E.clone f=ϴ) (j:args.length<=fn.ntmps) (hn:Da args=Z)
  (h:Wp E (Co E f 0 0 0) fn.ntmps fn.results.toList body [] (FP 0 args) ⟨[],[]⟩ (QP Post)):Ah E f args Post:=by
 have⟨v,n,e,k⟩:=oQ hb h;refine⟨v,e,λL s=>Lt (n:=n) b d λm hm=>?_⟩
 grind[Ed]
def ABJ {L:Ba} {s:AY} {Post:Ϡ} (d:E.P.funcs[f]?=Y fn) (hb:fn.body=Y body) (k:E.kind f=.im) (i:E.clone f=ϴ) (l:args.length<=fn.ntmps) (hn:Da args=ϴ)
  (h:Wp E (Co E f 0 L.ro L.rt) fn.ntmps fn.results.toList body [] (FP 0 args) s (QM (L.rr f) s.bs.length Post)) :
  ∃v b,Post v b/\Bk E L f args s v b:=by
 have⟨r,b,n,o,v,e,p,j⟩:=N6 hb h;refine⟨v,e,j,Lt (n:=n) d i λm hm=>?_⟩
 grind[Ed,Co]
def ABK {L:Ba} {s:AY} {Post:Ϡ} (d:E.P.funcs[f]?=Y fn) (hb:fn.body=Y body) (k:E.kind f=.st) (i:E.clone f=ϴ) (l:args.length<=fn.ntmps)
  (h:Wp E (Co E f 0 L.ro L.rt) fn.ntmps fn.results.toList body [] (FP 0 args) s (QM (L.rr f) s.bs.length Post)) :
  ∃v b,Post v b/\Bk E L f args s v b:=by
 have⟨r,b,n,o,v,e,p,j⟩:=N6 hb h;refine⟨v,e,j,Lt (n:=n) d i λm hm=>?_⟩
 grind[Ed,Co]
def yj {L:Ba} {s:AY} {Post:Ϡ} (d:E.P.funcs[f]?=Y fn) (hb:fn.body=Y body) (j:E.kind f=.esc) (e:E.clone f=ϴ) (k:args.length<=fn.ntmps)
  (h:Wp E (Co E f L.n0 L.ro L.rt) fn.ntmps fn.results.toList body [] (FP 0 args) s Post) :
  ∃v b,Post v b/\Bk E L f args s v b:=by
 have⟨r,b,n,l,i⟩:=N6 hb h;refine⟨r,b,i,Lt (n:=n) d e λm hm=>?_⟩
 grind[Ed,Co]
def yl {s:AY} {Post:AV->Prop} (b:E.P.funcs[f]?=Y fn) (hb:fn.body=Y body) (j:E.kind f=.rd) (d:E.clone f=ϴ) (k:args.length<=fn.ntmps) (i:BZ [] 0 0 args=G)
  (h:Wp E (Co E f s.bs.length s.bs.length s.ts.length) fn.ntmps fn.results.toList body [] (FP 0 args) s (QI s.bs.length s.ts.length Post)) :
  ∃v,Post v/\∀L,Bk E L f args s v s:=by
 have⟨r,l,n,o,v,p,e⟩:=N6 hb h;refine⟨v,e,λL=>Lt (n:=n) b d λm hm=>?_⟩
 grind[Ed,Co]
end
def mpK {A B:Prop} (h:A) (e:A=B):B:=e ▸ h
def AI {E:Env} {L:Ba} {f:ϣ} {args:Ϭ} {s:AY} {K:Ϡ} {Post:AV->Prop} (h:Ah E f args Post) (b:∀v,Post v->K v s):G4 E L (.func (.func f) [] []) args s K:=by
 obtain⟨v,d,e⟩:=h;refine⟨v,s,?_,b v d⟩
 grind
def Cr {E:Env} {L:Ba} {f:ϣ} {args:Ϭ} {s:AY} {K:Ϡ} {Post:Ϡ} (h:∃v b,Post v b/\Bk E L f args s v b) (d:∀v b,Post v b->K v b):G4 E L (.func (.func f) [] []) args s K:=by
 obtain⟨v,b,e,i⟩:=h;refine⟨v,b,?_,d v b e⟩
 grind
end Go.Tel
