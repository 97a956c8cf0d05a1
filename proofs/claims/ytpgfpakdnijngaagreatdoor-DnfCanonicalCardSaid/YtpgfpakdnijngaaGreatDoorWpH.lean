/-
  A loop over an iterator's values: what a round needs, and the whole loop.
-/
import Derived.Test.YtpgfpakdnijngaaGreatDoorWvF
set_option linter.all false
namespace Go.Tel
noncomputable abbrev wpo (E:Env) (L:A3) (N:Nat) (c:Code):En->AM->(Out->En->AM->Prop)->Prop:=
 Code.rec (motive:=λ_=>En->AM->(Out->En->AM->Prop)->Prop)
  (λenv s K=>K .norm env s)
  (λid ops d env s K=>match d with
   | false=>UW E L N ops ops.toList env s λenv s=>K .norm env s
   | true=>wO (L.pl id) λp=>qD E L N p ops env s λenv s=>K .norm env s)
  (λ_ _ Y2 Uh env s K=>Y2 env s λo env s=>match o with
   | .norm=>Uh env s K
   | o=>K o env s)
  (λc _ _ Y2 Uh env s K=>wO (IE (EC env) c) λc=>AO c (Y2 env s K) (Uh env s K))
  (λid _ ih env s K=>ih env s λo env s=>match o with
   | .exit j=>match Nat.beq j id with
    | true=>K .norm env s
    | false=>K (.exit j) env s
   | o=>K o env s)
  (λ_ _ _ _ _=>False)
  (λ_ _ _ _ _ _ _ _ _=>False)
  (λj env s K=>K (.exit j) env s)
  (λ_ _ _ _ _=>False)
  (λ_ _ _ _=>False)
  (λ_ _ _ _=>False)
  (λenv s K=>K .ret env s)
  (λ_ _ _ _=>False) c
theorem W8 {E:Env} {L:A3} {N:Nat}:∀(c:Code) (env:En) (s:AM) (K:Out->En->AM->Prop),wpo E L N c env s K->∀ρ,G5 (EC env) ρ ->
  ∃o env' ρ' s',CP E L c ⟨N,ρ,s⟩ o ⟨N,ρ',s'⟩/\G5 (EC env') ρ'/\K o env' s':=by
 intro c
 induction c with
 | skip=>exact λenv s K h ρ hA=>⟨.norm,env,ρ,s,CP.simple λ_ _=>rfl,hA,h⟩
 | ret=>exact λenv s K h ρ hA=>⟨.ret,env,ρ,s,CP.simple λ_ _=>rfl,hA,h⟩
 | exit j=>exact λenv s K h ρ hA=>⟨.exit j,env,ρ,s,CP.simple λ_ _=>rfl,hA,h⟩
 | region id ops d=>
  intro env s K h ρ hA;cases d with
  | false=>
   obtain⟨env',ρ',s',h1,h2,h3⟩:=wp_region (id:=id) (K:=λenv s=>K .norm env s) h ρ hA;exact⟨.norm,env',ρ',s',h1,h2,h3⟩
  | true=>
   obtain⟨env',ρ',s',h1,h2,h3⟩:=UX (K:=λenv s=>K .norm env s) h ρ hA;exact⟨.norm,env',ρ',s',h1,h2,h3⟩
 | seq a b Y2 Uh=>
  intro env s K h ρ hA;obtain⟨o,El,ρ1,s1,h1,h2,h3⟩:=Y2 env s _ h ρ hA;cases o with
  | norm=>
   obtain⟨o,FT,ρ2,s2,h4,h5,h6⟩:=Uh El s1 K h3 ρ1 h2;exact⟨o,FT,ρ2,s2,h1.seq h4,h5,h6⟩
  | exit j=>exact⟨_,El,ρ1,s1,h1.ADJ (by simp),h2,h3⟩
  | ret=>exact⟨_,El,ρ1,s1,h1.ADJ (by simp),h2,h3⟩
 | cond c a b Y2 Uh=>
  intro env s K h ρ hA;obtain⟨cv,h1,h⟩:=BC h;unfold AO at h;split at h
  .rename_i t
   cases t with
   | true=>
    obtain⟨o,El,ρ1,s1,h3,h4⟩:=Y2 _ _ _ (h.1 rfl) ρ hA;exact⟨o,El,ρ1,s1,CP.cond (CA hA h1) h3,h4⟩
   | false=>
    obtain⟨o,El,ρ1,s1,h3,h4⟩:=Uh _ _ _ (h.2 rfl) ρ hA;exact⟨o,El,ρ1,s1,CP.cond (CA hA h1) h3,h4⟩
  simp_all
 | block id b ih=>
  intro env s K h ρ hA;obtain⟨o,El,ρ1,s1,h1,h2,h3⟩:=ih env s _ h ρ hA;cases o with
  | norm=>exact⟨_,El,ρ1,s1,h1.block,h2,h3⟩
  | ret=>exact⟨_,El,ρ1,s1,h1.block,h2,h3⟩
  | exit j=>
   have h1:=h1.block (id:=id);simp only[ADK] at h1;cases hb:Nat.beq j id with
   | true=>rw[hb] at h1; simp only[hb] at h3; exact⟨_,El,ρ1,s1,h1,h2,h3⟩
   | false=>rw[hb] at h1; simp only[hb] at h3; exact⟨_,El,ρ1,s1,h1,h2,h3⟩
 | _=>simp
theorem CP.both {E:Env} {L:A3} {a b:Code} {st FU st2 st3:St} {o o':Out} (h1:CP E L a st o FU) (h2:CP E L b st2 o' st3) :
  ∃n,∀m k,n<=m->n<=k->IL E (DG E m) k L a st=some (o,FU)/\IL E (DG E m) k L b st2=some (o',st3):=by
 obtain⟨n1,h1⟩:=h1;obtain⟨n2,h2⟩:=h2;exact⟨max n1 n2,λm k hm hk=>⟨h1 m k (by omega) (by omega),h2 m k (by omega) (by omega)⟩⟩
theorem w7 {E:Env} {L:A3} {N:Nat} {rs:List ResultVar} {QR:AV->AM->Prop} {g:Operand} {ps:Array Tmp} {ca cb:Code} {ks:List Frame} {env:En} {s:AM} {k id p q:Nat} {el:TypeId} {c:AV} {rest:List AV}
  {rows:List (List PV)} (hg:IE (EC env) g=some (.func (.func k) [] [.ptr id 0])) (hps:ps.toList=[p,q]) (hk:E.back k=some el) (hb:s.bs[id]?=some (c::rest)) (hr:rowsOf c=some rows)
  (hc:(Nat.ble L.ro id&&(Ij ca&&(Ij cb&&(Nat.blt p N&&(Nat.blt q N&&(!Nat.beq p q&&(Nat.ble rows.length 1000000000000000000&&(DZ E.P el).isSome)))))))=true)
  (I:Nat->AM->Prop) (h0:I rows.length { s with bs:=s.bs.set id [] })
  (hstep:∀j s row,rows[j]?=some row->I (j+1) s->∃v,Zd E.P el row=some v/\wpo E L N ca ((q,v)::(p,AA j)::env) s λo El s=>o=.norm/\wpo E L N cb El s λo _ s'=>match o with
   | .norm=>I j s'
   | .ret=>dm E (EC env) s' rs λvs=>QR (JC vs) s'
   | .exit _=>False)
  (hend:∀s',I 0 s'->Wp E L N rs .skip ks env s' QR):Wp E L N rs (.rangeFunc g ps ca cb) ks env s QR:=by
 intro ρ hA;have hgv:=CA hA hg
 have rounds:∀j s,j<=rows.length->I j s->∃o s' n,(∀m k,n<=m->n<=k->FP (FZ E.P (IL E (DG E m) k L) ca cb ⟨N,ρ,s⟩ p q el) rows j s=some (o,s')) /\
   ((o=.norm/\I 0 s')\/(o=.ret/\dm E (EC env) s' rs λvs=>QR (JC vs) s')):=by
  intro j
  induction j with
  | zero=>exact λs _ h=>⟨.norm,s,0,λm k _ _=>rfl,.inl ⟨rfl,h⟩⟩
  | succ j ih=>
   intro s hj h;obtain⟨row,hrow⟩:∃row,rows[j]?=some row:=⟨_,Ap (by omega)⟩;obtain⟨v,hv,hw⟩:=hstep j s row hrow h;obtain⟨o1,El,ρ1,s1,c1,a1,rfl,hw⟩:=W8 _ _ _ _ hw (Xa (Xa ρ p (AA j)) q v) ((hA.put p _).put q v);obtain⟨o2,FT,ρ2,s2,c2,a2,hw⟩:=W8 _ _ _ _ hw ρ1 a1;obtain⟨n0,hn⟩:=c1.both c2;have one:∀m k,n0<=m->n0<=k->FZ E.P (IL E (DG E m) k L) ca cb ⟨N,ρ,s⟩ p q el j row s=some (o2,s2):=by simp_all[FZ]
   have swap:∀m k j s0 s',FP (FZ E.P (IL E (DG E m) k L) ca cb ⟨N,ρ,s'⟩ p q el) rows j s0=FP (FZ E.P (IL E (DG E m) k L) ca cb ⟨N,ρ,s⟩ p q el) rows j s0:=λ_ _ _ _ _=>rfl
   cases o2 with
   | norm=>
    obtain⟨o,s',n1,h1,h2⟩:=ih s2 (by omega) hw;refine⟨o,s',max n0 n1,λm k hm hk=>?_,h2⟩;simp only[FP,hrow,one m k (by omega) (by omega)];exact h1 m k (by omega) (by omega)
   | ret=>
    refine⟨.ret,s2,n0,λm k hm hk=>?_,.inr ⟨rfl,hw⟩⟩;simp[*,FP]
   | exit i=>simp_all
 obtain⟨o,s',n,h1,h2⟩:=rounds rows.length _ (AN _) h0
 have ce:CP E L (.rangeFunc g ps ca cb) ⟨N,ρ,s⟩ o ⟨N,ρ,s'⟩:=by
  refine⟨n+1,λm z hm hz=>?_⟩;obtain⟨z,rfl⟩:∃z',z=z'+1:=⟨z-1,by omega⟩;have:=h1 m z (by omega) (by omega);simp only[IL,hgv,hps,hk,hb,hr,hc,AH];have e:FP (FZ E.P (IL E (DG E m) z L) ca cb ⟨N,ρ,s⟩ p q el) rows rows.length { s with bs:=s.bs.set id [] }=some (o,s'):=this;rw[e]
 rcases h2 with ⟨rfl,h2⟩|⟨rfl,h2⟩
 .obtain⟨o,st,h3,h4⟩:=hend s' h2 ρ hA
  have ASk:o=.norm/\st=⟨N,ρ,s'⟩:=by
   obtain⟨n,hn⟩:=h3;have:=hn (n+1) (n+1) (by omega) (by omega)
   simp_all[IL]
  obtain⟨rfl,rfl⟩:=ASk;exact⟨_,_,ce,h4⟩
 .exact⟨_,_,ce,RG.ret (ZR hA h2 (λ_=>by simp)) ks⟩
theorem Vk {E:Env} {L:A3} {s:AM} {lk:Lk} {o:Oper} {K:AV->AM->Prop} {x y:Operand} {m n:Int} {t:Array TypeId} (ho:o.op=.call { callee:=.builtin .max,args:=#[x,y],argTypes:=t })
  (hx:IE lk x=some (AA m)) (hy:IE lk y=some (AA n)) (h:K (AA (max m n)) s):TW E L s lk o K:=by
 refine⟨AA (max m n),s,λρ hA=>?_,h⟩;have ex:=CA hA hx;have ey:=CA hA hy;unfold Ca;rw[ho]
 have h1:EZ ρ o.op.operands.toList=true:=by
  have e:o.op.operands.toList=[x,y]:=by rw[ho]; rfl
  grind[EZ,HJ]
 have h2:Cs E ρ o=some (AA (max m n)):=by
  simp only[Cs,h1,GR];unfold execOp;rw[ho];simp[resolve,invoke,builtin,Builtin.max_,Builtin.max2,ex,ey,HJ];have e:max m n=if m<n then n else m:=by omega
  rw[e];rfl
 grind
theorem HG {k:Nat}:∀(m:List (List PV)),(∀r∈m,r.length=k)->CD k m.length m.flatten=m
 | [],_=>rfl
 | r::m,h=>by
  have hr:=h r (by simp);have e1:(r++m.flatten).take k=r:=by grind
  have e2:(r++m.flatten).drop k=m.flatten:=by grind
  simp[CD,e1,e2,HG m (λx hx=>h x (by grind))]
theorem MI {k:Nat}:∀(m:List (List PV)),(∀r∈m,r.length=k)->m.flatten.length=m.length*k
 | [],_=>by simp
 | r::m,h=>by
  simp only[MV,B7,CI,h r (by simp),MI m (λx hx=>h x (by grind)),Md];omega
theorem Px {L:A3} {bs:List (List AV)} {ts x:List (Nat×TypeId)} {e:TypeId} {k bytes:Nat} {a y:AV} {rows m:List (List PV)} {K:AV->AM->Prop} (ha:EM ts.length (ts++x) e a rows) (GZ:L.rt<=ts.length) (hrows:∀r∈rows,r.length=k) (hm:∀r∈m,r.length=k) (hk:0<k)
  (hy:DN ⟨bs,ts++x⟩ k y=some (m.flatten.map .pv)) (hok:(m.flatten.map AV.pv).all A1=true) (hb:(rows.length+m.length)*bytes<=2 ^ 45) (M9:rows.length+m.length<=2 ^ 45)
  (h:∀a' x',EM ts.length (ts++x') e a' (rows++m)->K a' ⟨bs,ts++x'⟩):EL false L ⟨bs,ts++x⟩ e k bytes a y K:=by
 have hall:(rows.all λr=>r.length==k)=true:=by grind
 unfold EL;rw[hy];have hfl:=MI m hm;have hby:=HG m hm;cases hc:m.flatten with
 | nil=>
  have hm0:m=[]:=by
   cases m with
   | nil=>rfl
   | cons r m=>
    grind
  subst hm0;have:=h a x (by grind);rcases ha with rfl|⟨t,rfl,h1,h2⟩ <;> assumption
 | cons c cs=>
  have hmap:m.flatten.map AV.pv=.pv c::cs.map .pv:=by grind
  have hl:(AV.pv c::cs.map .pv).length / k=m.length:=by
   rw[<-hmap,Bn,hfl,Nat.mul_div_cancel _ hk]
  have htp:Cm (AV.pv c::cs.map .pv)=some m.flatten:=by grind[Kh]
  rw[hmap] at hok;simp only[wO,Bz,hok,hl,htp,hby];refine⟨AZ,?_⟩;rcases ha with rfl|⟨t,rfl,h1,h2⟩
  .refine⟨⟨hb,M9,hall⟩,?_⟩
   have:=h (.own (ts++x).length (rows++m)) (x++[(rows.length+m.length,e)]) (.inr ⟨_,rfl,by simp,by simp⟩)
   grind
  .refine⟨⟨hb,M9,h1,by omega,hall⟩,?_⟩
   have hlt:t<(ts++x).length:=(BL.1 h1).1;have es:(ts++x).set t (rows.length+m.length,e)=ts++x.set (t-ts.length) (rows.length+m.length,e):=XU _ _ h2;have:=h (.own t (rows++m)) (x.set (t-ts.length) (rows.length+m.length,e)) (.inr ⟨_,rfl,by grind,h2⟩)
   grind
theorem ER {s:AM} {k:Nat} {y:AV} {m:List (List PV)} (hy:BG y m) (hm:∀r∈m,r.length=k):DN s k y=some (m.flatten.map .pv):=by
 have hall:(m.all λr=>r.length==k)=true:=by grind
 rcases hy with (rfl|rfl)|⟨t,rfl⟩ <;> grind[DN,rowsOf]
theorem EH {l:List Int}:∀r∈AY l,r.length=1:=by
 intro r hr;obtain⟨n,_,rfl⟩:=Cp.1 hr;rfl
theorem Nk {l:List Int}:((AY l).flatten.map AV.pv).all A1=true:=by grind[AY,A1]
end Go.Tel
