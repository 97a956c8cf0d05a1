/-
  A loop over an iterator's values: what a round needs, and the whole loop.
-/
import Derived.Test.YtpgfpakdnijngaaGreatDoorWvF
set_option linter.all false
namespace Go.Tel
open Option renaming some->Y
open Bool renaming true->Z,false->ϴ
noncomputable abbrev wpo (E:Env) (L:Ba) (N:Nat) (c:Code):En->AY->(Out->En->AY->Prop)->Prop:=
 Code.rec (motive:=λ_=>En->AY->(Out->En->AY->Prop)->Prop)
  (λenv s K=>K .norm env s)
  (λid b d env s K=>match d with
   | false=>Vu E L N b b.toList env s λenv s=>K .norm env s
   | true=>wO (L.pl id) λp=>qY E L N p b env s λenv s=>K .norm env s)
  (λ_ _ e f env s K=>e env s λo env s=>match o with
   | .norm=>f env s K
   | o=>K o env s)
  (λc _ _ e f env s K=>wO (I3 (EN env) c) λc=>EK c (e env s K) (f env s K))
  (λid _ i env s K=>i env s λo env s=>match o with
   | .exit j=>match Nat.beq j id with
    | true=>K .norm env s
    | false=>K (.exit j) env s
   | o=>K o env s)
  (λ_ _ _ _ _=>False)
  (λ_ _ _ _ _ _ _ _ _=>False)
  (λj env s K=>K (.exit j) env s)
  (λ_ _ _ _ _=>False)
  (λ_ _ _ _=>False)
  (λ_ _ _ _=>False)
  (λenv s K=>K .ret env s)
  (λ_ _ _ _=>False) c
def YU {E:Env} {L:Ba} {N:Nat}:∀(c:Code) (env:En) (s:AY) (K:Out->En->AY->Prop),wpo E L N c env s K->∀U,Hh (EN env) U ->
  ∃o n p r,Cs E L c ⟨N,U,s⟩ o ⟨N,p,r⟩/\Hh (EN n) p/\K o n r:=by
 intro c
 induction c with
 | skip=>exact λenv s K h U hA=>⟨.norm,env,U,s,Cs.simple λ_ _=>rfl,hA,h⟩
 | ret=>exact λenv s K h U hA=>⟨.ret,env,U,s,Cs.simple λ_ _=>rfl,hA,h⟩
 | exit j=>exact λenv s K h U hA=>⟨.exit j,env,U,s,Cs.simple λ_ _=>rfl,hA,h⟩
 | region id I d=>
  intro env s K h U hA;cases d with
  | false=>
   have⟨n,p,r,e,k,f⟩:=wp_region (id:=id) (K:=λenv s=>K .norm env s) h U hA;exact⟨.norm,n,p,r,e,k,f⟩
  | true=>
   have⟨n,p,r,e,k,f⟩:=Vv (K:=λenv s=>K .norm env s) h U hA;exact⟨.norm,n,p,r,e,k,f⟩
 | seq a b x y=>
  intro env s K h U hA;have⟨o,i,l,m,e,k,f⟩:=x env s _ h U hA;cases o with
  | norm=>
   have⟨o,z,A,B,u,C,D⟩:=y i m K f l k;exact⟨o,z,A,B,e.seq u,C,D⟩
  | exit j=>exact⟨_,i,l,m,e.ABA AD,k,f⟩
  | ret=>exact⟨_,i,l,m,e.ABA AD,k,f⟩
 | cond c a b x y=>
  intro env s K h U hA;have⟨cv,e,h⟩:=Bm h;unfold EK at h;split at h
  .rename_i t
   cases t with
   | true=>
    have⟨o,i,l,m,f,u⟩:=x _ _ _ (h.1 rfl) U hA;exact⟨o,i,l,m,Cs.cond (Cj hA e) f,u⟩
   | false=>
    have⟨o,i,l,m,f,u⟩:=y _ _ _ (h.2 rfl) U hA;exact⟨o,i,l,m,Cs.cond (Cj hA e) f,u⟩
  simp_all
 | block id b H=>
  intro env s K h U hA;have⟨o,i,l,m,e,k,f⟩:=H env s _ h U hA;cases o with
  | norm=>exact⟨_,i,l,m,e.block,k,f⟩
  | ret=>exact⟨_,i,l,m,e.block,k,f⟩
  | exit j=>
   have e:=e.block (id:=id);simp only[ABB] at e;cases hb:Nat.beq j id with
   | true=>rw[hb] at e; simp only[hb] at f; exact⟨_,i,l,m,e,k,f⟩
   | false=>rw[hb] at e; simp only[hb] at f; exact⟨_,i,l,m,e,k,f⟩
 | _=>simp
def Cs.both {E:Env} {L:Ba} {a b:Code} {st GD qk st3:St} {o f:Out} (d:Cs E L a st o GD) (e:Cs E L b qk f st3) :
  ∃n,∀m k,n<=m->n<=k->JA E (Dk E m) k L a st=Y (o,GD)/\JA E (Dk E m) k L b qk=Y (f,st3):=by
 obtain⟨i,d⟩:=d;obtain⟨j,e⟩:=e;exact⟨max i j,λm k hm l=>⟨d m k AA AA,e m k AA AA⟩⟩
def xp {E:Env} {L:Ba} {N:Nat} {r:List ResultVar} {QR:Ϡ} {g:Operand} {ps:Array Tmp} {ca d:Code} {t:List Frame} {env:En} {s:AY} {k id p q:Nat} {el:TypeId} {c:AV} {rest:Ϭ}
  {rows:Ϯ} (W:I3 (EN env) g=Y (.func (.func k) [] [.ptr id 0])) (S:ps.toList=[p,q]) (u:E.back k=Y el) (hb:s.bs[id]?=Y (c::rest)) (X:rowsOf c=Y rows)
  (α:(Nat.ble L.ro id&&(JZ ca&&(JZ d&&(Nat.blt p N&&(Nat.blt q N&&(!Nat.beq p q&&(Nat.ble rows.length 1000000000000000000&&(Dy E.P el).isSome)))))))=Z)
  (I:Nat->AY->Prop) (β:I rows.length { s with bs:=s.bs.set id [] })
  (M:∀j s row,rows[j]?=Y row->I (j+1) s->∃v,az E.P el row=Y v/\wpo E L N ca ((q,v)::(p,AG j)::env) s λo A s=>o=.norm/\wpo E L N d A s λo _ b=>match o with
   | .norm=>I j b
   | .ret=>fR E (EN env) b r λvs=>QR (H9 vs) b
   | .exit _=>False)
  (Q:∀b,I 0 b->Wp E L N r .skip t env b QR):Wp E L N r (.rangeFunc g ps ca d) t env s QR:=by
 intro U hA;have T:=Cj hA W
 have K:∀j s,j<=rows.length->I j s->∃o b n,(∀m k,n<=m->n<=k->F4 (GJ E.P (JA E (Dk E m) k L) ca d ⟨N,U,s⟩ p q el) rows j s=Y (o,b)) /\
   ((o=.norm/\I 0 b)\/(o=.ret/\fR E (EN env) b r λvs=>QR (H9 vs) b)):=by
  intro j
  induction j with
  | zero=>exact λs _ h=>⟨.norm,s,0,λm k _ _=>rfl,.inl ⟨rfl,h⟩⟩
  | succ j γ=>
   intro s ξ h;have⟨row,B⟩:∃row,rows[j]?=Y row:=⟨_,Az AA⟩;have⟨v,ο,l⟩:=M j s row B h;obtain⟨π,A,δ,ρ,ε,ζ,rfl,l⟩:=YU _ _ _ _ l (Yq (Yq U p (AG j)) q v) ((hA.put p _).put q v);have⟨C,ν,ς,x,η,σ,l⟩:=YU _ _ _ _ l δ ζ;have⟨n0,hn⟩:=ε.both η;have one:∀m k,n0<=m->n0<=k->GJ E.P (JA E (Dk E m) k L) ca d ⟨N,U,s⟩ p q el j row s=Y (C,x):=by simp_all[GJ]
   have swap:∀m k j D b,F4 (GJ E.P (JA E (Dk E m) k L) ca d ⟨N,U,b⟩ p q el) rows j D=F4 (GJ E.P (JA E (Dk E m) k L) ca d ⟨N,U,s⟩ p q el) rows j D:=λ_ _ _ _ _=>rfl
   cases C with
   | norm=>
    have⟨o,b,θ,y,f⟩:=γ x AA l;refine⟨o,b,max n0 θ,λm k hm u=>?_,f⟩;simp only[F4,B,one m k AA AA];exact y m k AA AA
   | ret=>
    refine⟨.ret,x,n0,λm k hm u=>?_,.inr ⟨rfl,l⟩⟩;simp[*,F4]
   | exit i=>simp_all
 have⟨o,b,n,y,f⟩:=K rows.length _ (AU _) β
 have H:Cs E L (.rangeFunc g ps ca d) ⟨N,U,s⟩ o ⟨N,U,b⟩:=by
  refine⟨n+1,λm z hm τ=>?_⟩;obtain⟨z,rfl⟩:∃ι,z=ι+1:=⟨z-1,AA⟩;have:=y m z AA AA;simp only[JA,T,S,u,hb,X,α,AQ];have e:F4 (GJ E.P (JA E (Dk E m) z L) ca d ⟨N,U,s⟩ p q el) rows rows.length { s with bs:=s.bs.set id [] }=Y (o,b):=this;rw[e]
 rcases f with ⟨rfl,f⟩|⟨rfl,f⟩
 .have⟨o,st,κ,μ⟩:=Q b f U hA
  have O:o=.norm/\st=⟨N,U,b⟩:=by
   obtain⟨n,hn⟩:=κ;have:=hn (n+1) (n+1) AA AA
   simp_all[JA]
  obtain⟨rfl,rfl⟩:=O;exact⟨_,_,H,μ⟩
 .exact⟨_,_,H,SR.ret (aV hA f (λ_=>by simp)) t⟩
def W9 {E:Env} {L:Ba} {s:AY} {lk:Lk} {o:Oper} {K:Ϡ} {x y:Operand} {m n:Int} {t:Array TypeId} (b:o.op=.call { callee:=.builtin .max,args:=#[x,y],argTypes:=t })
  (hx:I3 lk x=Y (AG m)) (d:I3 lk y=Y (AG n)) (h:K (AG (max m n)) s):lz E L s lk o K:=by
 refine⟨AG (max m n),s,λU hA=>?_,h⟩;have ex:=Cj hA hx;have f:=Cj hA d;unfold C6;rw[b]
 have i:FA U o.op.operands.toList=true:=by
  have e:o.op.operands.toList=[x,y]:=by rw[b]; rfl
  grind[FA,Hx]
 have j:DN E U o=Y (AG (max m n)):=by
  simp only[DN,i,HA];unfold execOp;rw[b];simp[resolve,invoke,builtin,Builtin.max_,Builtin.max2,ex,f,Hx];have e:max m n=if m<n then n else m:=AA
  rw[e];rfl
 grind
theorem GY {k:Nat}:∀(m:Ϯ),(∀r∈m,r.length=k)->CZ k m.length m.flatten=m
 | [],_=>rfl
 | r::m,h=>by
  have e:=h r AD;have b:(r++m.flatten).take k=r:=AB;have d:(r++m.flatten).drop k=m.flatten:=AB;simp[CZ,b,d,GY m (λx hx=>h x AB)]
def NP {k:Nat}:∀(m:Ϯ),(∀r∈m,r.length=k)->m.flatten.length=m.length*k
 | [],_=>by simp
 | r::m,h=>by
  simp only[Nh,B6,CP,h r AD,NP m (λx hx=>h x AB),Kh];omega
def Q4 {L:Ba} {bs:Ϩ} {ts x:List (Nat×TypeId)} {e:TypeId} {k bytes:Nat} {a y:AV} {rows m:Ϯ} {K:Ϡ} (o:D1 ts.length (ts++x) e a rows) (I:L.rt<=ts.length) (H:∀r∈rows,r.length=k) (hm:∀r∈m,r.length=k) (C:0<k)
  (D:DS ⟨bs,ts++x⟩ k y=Y (m.flatten.map .pv)) (l:(m.flatten.map AV.pv).all BS=Z) (hb:(rows.length+m.length)*bytes<=2 ^ 45) (n:rows.length+m.length<=2 ^ 45)
  (h:∀p s,D1 ts.length (ts++s) e p (rows++m)->K p ⟨bs,ts++s⟩):I6 ϴ L ⟨bs,ts++x⟩ e k bytes a y K:=by
 have i:(rows.all λr=>r.length==k)=true:=AB;unfold I6;rw[D];have u:=NP m hm;have z:=GY m hm;cases N:m.flatten with
 | nil=>
  have A:m=[]:=by
   cases m with
   | nil=>rfl
   | cons r m=>
    grind
  subst A;have:=h a x AB;rcases o with rfl|⟨t,rfl,b,d⟩ <;> assumption
 | cons c f=>
  have j:m.flatten.map AV.pv=.pv c::f.map .pv:=AB
  have E:(AV.pv c::f.map .pv).length / k=m.length:=by
   rw[<-j,Bj,u,Nat.mul_div_cancel _ C]
  have B:C0 (AV.pv c::f.map .pv)=Y m.flatten:=by grind[Li]
  rw[j] at l;simp only[wO,CH,l,E,B,z];refine⟨Ay,?_⟩;rcases o with rfl|⟨t,rfl,b,d⟩
  .refine⟨⟨hb,n,i⟩,?_⟩
   have:=h (.own (ts++x).length (rows++m)) (x++[(rows.length+m.length,e)]) (.inr ⟨_,rfl,AD,AD⟩)
   grind
  .refine⟨⟨hb,n,b,AA,i⟩,?_⟩
   have M:t<(ts++x).length:=(BJ.1 b).1;have O:(ts++x).set t (rows.length+m.length,e)=ts++x.set (t-ts.length) (rows.length+m.length,e):=Yk _ _ d;have:=h (.own t (rows++m)) (x.set (t-ts.length) (rows.length+m.length,e)) (.inr ⟨_,rfl,AB,d⟩)
   grind
def D7 {s:AY} {k:Nat} {y:AV} {m:Ϯ} (b:BN y m) (hm:∀r∈m,r.length=k):DS s k y=Y (m.flatten.map .pv):=by
 have d:(m.all λr=>r.length==k)=true:=AB;rcases b with (rfl|rfl)|⟨t,rfl⟩ <;> grind[DS,rowsOf]
theorem Dw {l:Ϛ}:∀r∈Ai l,r.length=1:=by
 intro r b;obtain⟨n,_,rfl⟩:=Cw.1 b;rfl
def O1 {l:Ϛ}:((Ai l).flatten.map AV.pv).all BS=true:=by grind[Ai,BS]
end Go.Tel
