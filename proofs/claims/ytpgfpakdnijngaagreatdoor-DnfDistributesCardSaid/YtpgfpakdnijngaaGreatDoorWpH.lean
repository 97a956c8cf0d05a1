/-
  A loop over an iterator's values: what a round needs, and the whole loop.
-/
import Derived.Test.YtpgfpakdnijngaaGreatDoorWvF
set_option linter.unusedSimpArgs false
set_option linter.unusedVariables false
namespace Go.Tel
noncomputable abbrev wpo (E:Env) (L:A0) (N:Nat) (c:Code):En->AK->(Out->En->AK->Prop)->Prop:=
 Code.rec (motive:=fun _=>En->AK->(Out->En->AK->Prop)->Prop)
  (fun env s K=>K .norm env s)
  (fun id ops d env s K=>match d with
   | false=>UI E L N ops ops.toList env s fun env s=>K .norm env s
   | true=>wO (L.pl id) fun p=>nC E L N p ops env s fun env s=>K .norm env s)
  (fun _ _ U4 TI env s K=>U4 env s fun o env s=>match o with
   | .norm=>TI env s K
   | o=>K o env s)
  (fun c _ _ U4 TI env s K=>wO (Im (Fo env) c) fun c=>AX c (U4 env s K) (TI env s K))
  (fun id _ ih env s K=>ih env s fun o env s=>match o with
   | .exit j=>match Nat.beq j id with
    | true=>K .norm env s
    | false=>K (.exit j) env s
   | o=>K o env s)
  (fun _ _ _ _ _=>False)
  (fun _ _ _ _ _ _ _ _ _=>False)
  (fun j env s K=>K (.exit j) env s)
  (fun _ _ _ _ _=>False)
  (fun _ _ _ _=>False)
  (fun _ _ _ _=>False)
  (fun env s K=>K .ret env s)
  (fun _ _ _ _=>False) c
theorem Wj {E:Env} {L:A0} {N:Nat}:∀ (c:Code) (env:En) (s:AK) (K:Out->En->AK->Prop),wpo E L N c env s K->∀ ρ,Ik (Fo env) ρ ->
  ∃ o env' ρ' s',CG E L c ⟨N,ρ,s⟩ o ⟨N,ρ',s'⟩/\Ik (Fo env') ρ'/\K o env' s':=by
 intro c
 induction c with
 | skip=>exact fun env s K h ρ hA=>⟨.norm,env,ρ,s,CG.simple fun _ _=>rfl,hA,h⟩
 | ret=>exact fun env s K h ρ hA=>⟨.ret,env,ρ,s,CG.simple fun _ _=>rfl,hA,h⟩
 | exit j=>exact fun env s K h ρ hA=>⟨.exit j,env,ρ,s,CG.simple fun _ _=>rfl,hA,h⟩
 | region id ops d=>
  intro env s K h ρ hA;cases d with
  | false=>
   obtain⟨env',ρ',s',h1,h2,h3⟩:=wp_region (id:=id) (K:=fun env s=>K .norm env s) h ρ hA;exact⟨.norm,env',ρ',s',h1,h2,h3⟩
  | true=>
   obtain⟨env',ρ',s',h1,h2,h3⟩:=UJ (K:=fun env s=>K .norm env s) h ρ hA;exact⟨.norm,env',ρ',s',h1,h2,h3⟩
 | seq a b U4 TI=>
  intro env s K h ρ hA;obtain⟨o,GK,ρ1,s1,h1,h2,h3⟩:=U4 env s _ h ρ hA;cases o with
  | norm=>
   obtain⟨o,HT,ρ2,s2,h4,h5,h6⟩:=TI GK s1 K h3 ρ1 h2;exact⟨o,HT,ρ2,s2,h1.seq h4,h5,h6⟩
  | exit j=>exact⟨_,GK,ρ1,s1,h1.AAF (by simp),h2,h3⟩
  | ret=>exact⟨_,GK,ρ1,s1,h1.AAF (by simp),h2,h3⟩
 | cond c a b U4 TI=>
  intro env s K h ρ hA;obtain⟨cv,h1,h⟩:=Ag h;unfold AX at h;split at h
  ·rename_i t
   cases t with
   | true=>
    obtain⟨o,GK,ρ1,s1,h3,h4⟩:=U4 _ _ _ (h.1 rfl) ρ hA;exact⟨o,GK,ρ1,s1,CG.cond (BU hA h1) h3,h4⟩
   | false=>
    obtain⟨o,GK,ρ1,s1,h3,h4⟩:=TI _ _ _ (h.2 rfl) ρ hA;exact⟨o,GK,ρ1,s1,CG.cond (BU hA h1) h3,h4⟩
  ·exact h.elim
 | block id b ih=>
  intro env s K h ρ hA;obtain⟨o,GK,ρ1,s1,h1,h2,h3⟩:=ih env s _ h ρ hA;cases o with
  | norm=>exact⟨_,GK,ρ1,s1,h1.block,h2,h3⟩
  | ret=>exact⟨_,GK,ρ1,s1,h1.block,h2,h3⟩
  | exit j=>
   have h1:=h1.block (id:=id);simp only[AAG] at h1;cases hb:Nat.beq j id with
   | true=>rw[hb] at h1; simp only[hb] at h3; exact⟨_,GK,ρ1,s1,h1,h2,h3⟩
   | false=>rw[hb] at h1; simp only[hb] at h3; exact⟨_,GK,ρ1,s1,h1,h2,h3⟩
 | _=>exact fun env s K h=>h.elim
theorem CG.both {E:Env} {L:A0} {a b:Code} {st E7 wL st3:St} {o o':Out} (h1:CG E L a st o E7) (h2:CG E L b wL o' st3) :
  ∃ n,∀ m k,n<=m->n<=k->HV E (Cw E m) k L a st=some (o,E7)/\HV E (Cw E m) k L b wL=some (o',st3):=by
 obtain⟨n1,h1⟩:=h1;obtain⟨n2,h2⟩:=h2;exact⟨max n1 n2,fun m k hm hk=>⟨h1 m k (by omega) (by omega),h2 m k (by omega) (by omega)⟩⟩
theorem AMN {E:Env} {L:A0} {N:Nat} {rs:List ResultVar} {QR:AV->AK->Prop} {g:Operand} {ps:Array Tmp} {ca cb:Code} {ks:List Frame} {env:En} {s:AK} {k id p q:Nat} {el:TypeId} {c:AV} {rest:List AV}
  {rows:List (List PV)} (hg:Im (Fo env) g=some (.func (.func k) [] [.ptr id 0])) (hps:ps.toList=[p,q]) (hk:E.back k=some el) (hb:s.bs[id]?=some (c::rest)) (hr:rowsOf c=some rows)
  (hc:(Nat.ble L.ro id&&(Hi ca&&(Hi cb&&(Nat.blt p N&&(Nat.blt q N&&(!Nat.beq p q&&(Nat.ble rows.length 1000000000000000000&&(Dd E.P el).isSome)))))))=true)
  (I:Nat->AK->Prop) (h0:I rows.length { s with bs:=s.bs.set id [] })
  (hstep:∀ j s row,rows[j]?=some row->I (j+1) s->∃ v,iG E.P el row=some v/\wpo E L N ca ((q,v)::(p,AD j)::env) s fun o GK s=>o=.norm/\wpo E L N cb GK s fun o _ s'=>match o with
   | .norm=>I j s'
   | .ret=>cT E (Fo env) s' rs fun vs=>QR (JS vs) s'
   | .exit _=>False)
  (hend:∀ s',I 0 s'->Wp E L N rs .skip ks env s' QR):Wp E L N rs (.rangeFunc g ps ca cb) ks env s QR:=by
 intro ρ hA;have hgv:=BU hA hg
 have rounds:∀ j s,j<=rows.length->I j s->∃ o s' n,(∀ m k,n<=m->n<=k->Fy (F5 E.P (HV E (Cw E m) k L) ca cb ⟨N,ρ,s⟩ p q el) rows j s=some (o,s')) /\
   ((o=.norm/\I 0 s')\/(o=.ret/\cT E (Fo env) s' rs fun vs=>QR (JS vs) s')):=by
  intro j
  induction j with
  | zero=>exact fun s _ h=>⟨.norm,s,0,fun m k _ _=>rfl,.inl ⟨rfl,h⟩⟩
  | succ j ih=>
   intro s hj h;obtain⟨row,hrow⟩:∃ row,rows[j]?=some row:=⟨_,Ak (by omega)⟩;obtain⟨v,hv,hw⟩:=hstep j s row hrow h;obtain⟨o1,GK,ρ1,s1,c1,a1,rfl,hw⟩:=Wj _ _ _ _ hw (XM (XM ρ p (AD j)) q v) ((hA.put p _).put q v);obtain⟨o2,HT,ρ2,s2,c2,a2,hw⟩:=Wj _ _ _ _ hw ρ1 a1;obtain⟨n0,hn⟩:=c1.both c2
   have one:∀ m k,n0<=m->n0<=k->F5 E.P (HV E (Cw E m) k L) ca cb ⟨N,ρ,s⟩ p q el j row s=some (o2,s2):=by
    intro m k hm hk;obtain⟨e1,e2⟩:=hn m k hm hk;simp only[F5,hv];have:(IW (.int .i64 j):AV)=AD j:=rfl;rw[this,e1];simp only[e2]
   have swap:∀ m k j s0 s',Fy (F5 E.P (HV E (Cw E m) k L) ca cb ⟨N,ρ,s'⟩ p q el) rows j s0=Fy (F5 E.P (HV E (Cw E m) k L) ca cb ⟨N,ρ,s⟩ p q el) rows j s0:=fun _ _ _ _ _=>rfl
   cases o2 with
   | norm=>
    obtain⟨o,s',n1,h1,h2⟩:=ih s2 (by omega) hw;refine⟨o,s',max n0 n1,fun m k hm hk=>?_,h2⟩;simp only[Fy,hrow,one m k (by omega) (by omega)];exact h1 m k (by omega) (by omega)
   | ret=>
    refine⟨.ret,s2,n0,fun m k hm hk=>?_,.inr ⟨rfl,hw⟩⟩;simp only[Fy,hrow,one m k hm hk]
   | exit i=>exact hw.elim
 obtain⟨o,s',n,h1,h2⟩:=rounds rows.length _ (AL _) h0
 have ce:CG E L (.rangeFunc g ps ca cb) ⟨N,ρ,s⟩ o ⟨N,ρ,s'⟩:=by
  refine⟨n+1,fun m z hm hz=>?_⟩;obtain⟨z,rfl⟩:∃ z',z=z'+1:=⟨z-1,by omega⟩;have:=h1 m z (by omega) (by omega);simp only[HV,hgv,hps,hk,hb,hr,hc,AE];have e:Fy (F5 E.P (HV E (Cw E m) z L) ca cb ⟨N,ρ,s⟩ p q el) rows rows.length { s with bs:=s.bs.set id [] }=some (o,s'):=this;rw[e]
 rcases h2 with ⟨rfl,h2⟩|⟨rfl,h2⟩
 ·obtain⟨o,st,h3,h4⟩:=hend s' h2 ρ hA
  have AMO:o=.norm/\st=⟨N,ρ,s'⟩:=by
   obtain⟨n,hn⟩:=h3;have:=hn (n+1) (n+1) (by omega) (by omega);simp only[HV,AY,Af] at this;exact⟨this.1.symm,this.2.symm⟩
  obtain⟨rfl,rfl⟩:=AMO;exact⟨_,_,ce,h4⟩
 ·exact⟨_,_,ce,RI.ret (Yu hA h2 (fun _=>by simp)) ks⟩
theorem l7 {E:Env} {L:A0} {s:AK} {lk:Lk} {o:Oper} {K:AV->AK->Prop} {x y:Operand} {m n:Int} {t:Array TypeId} (ho:o.op=.call { callee:=.builtin .max,args:=#[x,y],argTypes:=t })
  (hx:Im lk x=some (AD m)) (hy:Im lk y=some (AD n)) (h:K (AD (max m n)) s):Vn E L s lk o K:=by
 refine⟨AD (max m n),s,fun ρ hA=>?_,h⟩;have ex:=BU hA hx;have ey:=BU hA hy;unfold CE;rw[ho]
 have h1:E4 ρ o.op.operands.toList=true:=by
  have e:o.op.operands.toList=[x,y]:=by rw[ho]; rfl
  rw[e];simp[E4,ex,ey,Gg]
 have h2:Ct E ρ o=some (AD (max m n)):=by
  simp only[Ct,h1,Dr];unfold execOp;rw[ho];simp[resolve,invoke,builtin,Builtin.max_,Builtin.max2,ex,ey,Gg]
  have e:max m n=if m<n then n else m:=by
   split <;> omega
  rw[e];rfl
 simp[h2]
theorem GI {k:Nat}:∀ (m:List (List PV)),(∀ r∈m,r.length=k)->B6 k m.length m.flatten=m
 | [],_=>rfl
 | r::m,h=>by
  have hr:=h r (by simp);have e1:(r++m.flatten).take k=r:=by rw[<-hr]; simp
  have e2:(r++m.flatten).drop k=m.flatten:=by rw[<-hr]; simp
  simp[B6,e1,e2,GI m (fun x hx=>h x (by simp[hx]))]
theorem Mb {k:Nat}:∀ (m:List (List PV)),(∀ r∈m,r.length=k)->m.flatten.length=m.length*k
 | [],_=>by simp
 | r::m,h=>by
  simp only[GO,Ab,A3,h r (by simp),Mb m (fun x hx=>h x (by simp[hx])),FO];omega
theorem AHG {L:A0} {bs:List (List AV)} {ts x:List (Nat×TypeId)} {e:TypeId} {k bytes:Nat} {a y:AV} {rows m:List (List PV)} {K:AV->AK->Prop} (ha:Ex ts.length (ts++x) e a rows) (Fz:L.rt<=ts.length) (hrows:∀ r∈rows,r.length=k) (hm:∀ r∈m,r.length=k) (hk:0<k)
  (hy:C8 ⟨bs,ts++x⟩ k y=some (m.flatten.map .pv)) (hok:(m.flatten.map AV.pv).all Ar=true) (hb:(rows.length+m.length)*bytes<=2 ^ 45) (MA:rows.length+m.length<=2 ^ 45)
  (h:∀ a' x',Ex ts.length (ts++x') e a' (rows++m)->K a' ⟨bs,ts++x'⟩):E1 false L ⟨bs,ts++x⟩ e k bytes a y K:=by
 have hall:(rows.all fun r=>r.length==k)=true:=by
  rw[Bs];intro r hr;simpa using hrows r hr
 unfold E1;rw[hy];have hfl:=Mb m hm;have hby:=GI m hm;cases hc:m.flatten with
 | nil=>
  have hm0:m=[]:=by
   cases m with
   | nil=>rfl
   | cons r m=>
    rw[hc] at hfl;simp only[BV,A3] at hfl;have:0<(m.length+1)*k:=Nat.mul_pos (by omega) hk;omega
  subst hm0;have:=h a x (by simpa using ha);rcases ha with rfl|⟨t,rfl,h1,h2⟩ <;> simpa[wO,rowsOf] using this
 | cons c cs=>
  have hmap:m.flatten.map AV.pv=.pv c::cs.map .pv:=by rw[hc]; rfl
  have hl:(AV.pv c::cs.map .pv).length / k=m.length:=by
   rw[<-hmap,AZ,hfl,Rb _ hk]
  have xm:Cn (AV.pv c::cs.map .pv)=some m.flatten:=by rw[<-hmap]; exact K1 _
  rw[hmap] at hok;simp only[wO,CI,hok,hl,xm,hby];refine⟨Al,?_⟩;rcases ha with rfl|⟨t,rfl,h1,h2⟩
  ·refine⟨⟨hb,MA,hall⟩,?_⟩
   have:=h (.own (ts++x).length (rows++m)) (x++[(rows.length+m.length,e)]) (.inr ⟨_,rfl,by rw[<-DI,OX]; simp,by simp⟩);simpa using this
  ·refine⟨⟨hb,MA,h1,by omega,hall⟩,?_⟩
   have hlt:t<(ts++x).length:=(Ae.1 h1).1;have es:(ts++x).set t (rows.length+m.length,e)=ts++x.set (t-ts.length) (rows.length+m.length,e):=LC _ _ h2;have:=h (.own t (rows++m)) (x.set (t-ts.length) (rows.length+m.length,e)) (.inr ⟨_,rfl,by rw[<-es,EA hlt]; simp,h2⟩);rw[es];exact this
theorem IU {s:AK} {k:Nat} {y:AV} {m:List (List PV)} (hy:BO y m) (hm:∀ r∈m,r.length=k):C8 s k y=some (m.flatten.map .pv):=by
 have hall:(m.all fun r=>r.length==k)=true:=by
  rw[Bs];intro r hr;simpa using hm r hr
 rcases hy with (rfl|rfl)|⟨t,rfl⟩ <;> simp[C8,rowsOf,hall]
theorem aR {l:List Int}:∀ r∈A4 l,r.length=1:=by
 intro r hr;obtain⟨n,_,rfl⟩:=Bb.1 hr;rfl
theorem AGb {l:List Int}:((A4 l).flatten.map AV.pv).all Ar=true:=by
 induction l with
 | nil=>rfl
 | cons n l _=>simp[A4,Ar]
theorem AHH {E:Env} {f:FuncId} {fn:Func} {body:Code} {args:List AV} {L:A0} {s:AK} {Post:AV->AK->Prop} (hfn:E.P.funcs[f]?=some fn) (hb:fn.body=some body) (hk:E.kind f=.esc) (hc:E.clone f=true) (ht:(E.told f).isNone=true) (he:Gl args=false) (hl:args.length<=fn.ntmps)
  (h:Wp E (Ca E f L.n0 L.ro L.rt) fn.ntmps fn.results.toList body [] (FZ 0 args) s Post) :
  ∃ v s',Post v s'/\BC E L f args s v s':=by
 obtain⟨r,s',n,h1,h2⟩:=Li hb h;refine⟨r,s',h2,n+1,fun m hm=>?_⟩;obtain⟨m,rfl⟩:∃ m',m=m'+1:=⟨m-1,by omega⟩;have ht':E.told f=none:=by simpa using ht
 simp only[Cw,hfn,hc,AE,L8,ht',he,AB];have:=h1 m (by omega);unfold Ca at this;unfold D3;simp only[if_pos hl,hk];exact this
theorem AGc {E:Env} {f:FuncId} {fn:Func} {args:List AV} {L:A0} {s:AK} (hfn:E.P.funcs[f]?=some fn) (hc:E.clone f=true) (ht:(E.told f).isNone=true) (he:Gl args=true):BC E L f args s (.AA []) s:=by
 refine⟨1,fun m hm=>?_⟩;obtain⟨m,rfl⟩:∃ m',m=m'+1:=⟨m-1,by omega⟩;have ht':E.told f=none:=by simpa using ht
 simp only[Cw,hfn,hc,AE,L8,ht',he]
end Go.Tel
