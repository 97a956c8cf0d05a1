/-
  Code: each piece that the evaluator answers is walked as it says.
-/
import Derived.Test.YtpgfpakdnijngaaGreatDoorEvO
set_option linter.all false
namespace Go.Tel
open Option renaming some->Y,none->G
open Bool renaming true->Z,false->ϴ
open Go renaming World->ϙ,Value->ϛ,Program->ϟ,FuncId->ϣ
def M7 (rd:Option Nat) (P:ϟ) (c:Code) (Q:Exit->Act->ϙ->Prop) (a:Act) (w:ϙ):Prop:=
 ∀(b:Frame) (k:List Item) (d:List Frame),b.roundOf=(FW rd).round->(FW rd).fn b.fn->(FW rd).room (d.length+1+0) ->
  ∃e f i,Q e f i/\ArrivesIn (Machine.fenced P (FW rd)) P (lone (b.atR a (.code c::.inLoop c::k)) d w) b k d e f i
def M7.wp {rd:Option Nat} {P:ϟ} {c:Code} {Q:Exit->Act->ϙ->Prop} {a:Act} {w:ϙ} (h:M7 rd P c Q a w):(Code.loop c).wpIn (FW rd) 0 P Q a w:=by
 intro b k j i hb d;have⟨e,l,m,n,f⟩:=h b k j i hb d;exact⟨e,l,m,n,.of_steps (.one (fenced_calm hb d rfl) stepR_loop) f⟩
def M7.round {rd:Option Nat} {P:ϟ} {c:Code} {Q:Exit->Act->ϙ->Prop} {a:Act} {w:ϙ} (h:c.wpIn (FW rd) 0 P (Exit.then (M7 rd P c Q) Q) a w):M7 rd P c Q a w:=by
 intro b k o n hb m;have⟨e,i,j,f,d⟩:=h b (.inLoop c::k) o n hb m;cases e with
 | normal=>
  have⟨s,t,u,r,p⟩:=f b k o n hb m;exact⟨s,t,u,r,.of_steps (StepsIn.trans d (.one (fenced_calm hb m rfl) stepR_inLoop)) p⟩
 | exit id=>exact⟨_,i,j,f,.pass (x:=.inLoop c) rfl (λ_ _=>.inl AD) d⟩
 | goto l=>exact⟨_,i,j,f,.pass (x:=.inLoop c) rfl (λ_ _=>.inl AD) d⟩
 | ret=>exact⟨_,i,j,f,.pass (x:=.inLoop c) rfl (λ_ _=>.inl AD) d⟩
 | panic y=>exact⟨_,i,j,f,.pass (x:=.inLoop c) rfl (λ_ _=>.inl AD) d⟩
 | outgrown=>exact⟨_,i,j,f,.pass (x:=.inLoop c) rfl (λ_ _=>.inl AD) d⟩
def Out.r0:Out->Exit
 | .norm=>.normal
 | .exit id=>.exit id
 | .ret=>.ret
def Ts (E:Env) (L:Ba) (st:St) (o:Out) (f:St) (W:(Exit->Act->ϙ->Prop)->Act->ϙ->Prop):Prop:=
 ∀(g:AZ) (w:ϙ) (a:Act) (Q:Exit->Act->ϙ->Prop),gN E g w st a ->
  (∀d b e,gN E e b f d->Marks w.heap.size a.defers e b d.defers->Ext L g w e b->f.N=st.N->Q o.r0 d b)->W Q a w
def OJ (fn:ϣ) (tmps:Array ϛ) (ps:Array Tmp) (ca b:Code) (D:Nat):Loop:={ state:=.ready,pending:=G,fn,tmps,params:=ps,assign:=ca,body:=b,defers:=D }
def r7 {b:Array ϛ} {p q t:Nat} {u x:ϛ} (d:p<b.size) (e:q<b.size) :
  ((b.setIfInBounds p u).setIfInBounds q x).getD t undef=if t=q then x else if t=p then u else b.getD t undef:=by
 simp only[Array.getD_eq_getD_getElem?,Array.getElem?_setIfInBounds,Array.size_setIfInBounds]
 grind
set_option maxHeartbeats 1000000 in
theorem ZI {E:Env} {θ:Ba->DH} {L:Ba} {n:Nat} {g:Operand} {ps:Array Tmp} {ca d:Code} {st γ:St} {o:Out} (b0:∀k t,E.back k=Y t->TN E.P k t)
  (IH:∀(l:Nat) (c:Code) (st γ:St) (o:Out),(c=ca\/c=d)->JZ c=Z->JA E θ n L c st=Y (o,γ)->Ts E L st o γ (λQ=>c.wpIn (FW (Y l)) 0 E.P Q))
  (h:JA E θ (n+1) L (.rangeFunc g ps ca d) st=Y (o,γ)):Ts E L st o γ (λQ=>(Code.rangeFunc g ps ca d).wpIn (FW G) 0 E.P Q):=by
 simp only[JA] at h;split at h
 .rename_i k id p q hg hps
  split at h
  .rename_i α c AY3 a2 hbs
   split at h
   .rename_i rows hrows
    cases Λ:(Nat.ble L.ro id&&(JZ ca&&(JZ d&&(Nat.blt p st.N&&(Nat.blt q st.N&&(!Nat.beq p q&&(Nat.ble rows.length 1000000000000000000&&(Dy E.P α).isSome))))))) with
    | false=>grind
    | true=>
     rw[Λ] at h;simp only[AQ] at h;simp only[AK] at Λ;obtain⟨υ,hna,hnb,hp,hq,hpq,σ,φ⟩:=Λ;have υ:=Fz υ;have hp:p<st.N:=HG;have hq:q<st.N:=HG;have σ:=Fz σ;have⟨sz,φ⟩:=Yf.1 φ;split at h
     .rename_i Ξ s' hr
      simp only[BU,Bg] at h;obtain⟨rfl,rfl⟩:=h;intro H w a Q f hQ;have hv:=A9 f.tmps g;rw[hg] at hv;have⟨Φ,us,hval,κ,μ⟩:=hv.Td;have:=κ.Fb;subst this;obtain⟨u,us',rfl,hu,hn⟩:=μ.cases;have:=hn.Fb;subst this;cases hu with
      | LS hd=>
       have:=f.inv.D3 id hd
       grind
      | @ptr _ _ b hb=>
       have⟨cs,Φ,e,k1,k2,kle,k3⟩:=f.inv.blk id b hb;rw[hbs] at k1;simp only[BU] at k1;subst k1;cases Φ with
       | nil=>grind
       | cons v0 Φ=>
       obtain⟨a4,b1,bb,b2,b3,ff,rfl,hcap,β⟩:=EU k3.head hrows;have a3:w.cell? ⟨b,0,G⟩=Y (.slice a4 rows.length b1):=by grind[World.cell?]
       have a5:=f.inv.EY hb;have⟨ek,ν⟩:=f.inv.kill (L:=L) hb υ
       have ob:Ou (H.kill id) b:=by
        refine⟨λb4 δ=>?_,λt l z=>Fx (f.inv.Dc id b t l hb z),λb4 δ=>f.inv.mpB δ hb,λi=>f.inv.GL id b i hb⟩;simp only[AZ.kill] at δ;split at δ
        .grind
        .rename_i b5
         exact b5 (f.inv.FD b4 id b δ hb)
       have⟨Ψ,i1,oD⟩:=ν.ABS (L:=L) (.deferred (Y []));refine wpIn_rangeFunc λr hfn=>?_
       have⟨ξ,i2,oL⟩:=i1.ABS (L:=L) (.loop (OJ r a.tmps ps ca d w.heap.size));rw[World.size_alloc] at oL;have hD1:(w.alloc (.deferred (Y []))).heap[w.heap.size]?=Y (.deferred (Y [])):=World.alloc_heap_new _ _;have⟨oD2,hD2⟩:=oD.ext ξ AD;have hL2:((w.alloc (.deferred (Y []))).alloc (.loop (OJ r a.tmps ps ca d w.heap.size))).heap[w.heap.size+1]?=Y (.loop (OJ r a.tmps ps ca d w.heap.size)):=by grind[World.alloc_heap_new,World.size_alloc]
       have hb2:=(ob.ext (Ψ.trans ξ) a5).2;have⟨fnk,hk1,hk2,hk3⟩:=(b0 k α a2).body;have b5:¬ fnk.body=none:=λe=>by grind
       refine⟨w.heap.size+1,[bQ w.heap.size],(w.alloc (.deferred (Y []))).alloc (.loop (OJ r a.tmps ps ca d w.heap.size)),({ target:=.fn (.func k) #[.pointer (Y ⟨b,0,G⟩)],args:=#[.func (.yield (w.heap.size+1)) #[] #[]] }:Deferred),
        (w.alloc (.deferred (Y []))).alloc (.loop (OJ r a.tmps ps ca d w.heap.size)),k,#[.func (.yield (w.heap.size+1)) #[] #[],.pointer (Y ⟨b,0,G⟩)],(w.alloc (.deferred (Y []))).alloc (.loop (OJ r a.tmps ps ca d w.heap.size)),
        run_enterLoop_outer r a.tmps ps ca d,?_,λ_ _=>trivial,?_,λ(e:(FW G).depth.isSome=Z)=>by grind[FW,Fence.wide],?_⟩
       .simp[resolve,rangeCall,hval,Deferred.ofValue]
        rfl
       .simp_all[invoke,callFunc]
       .have S:∀id k,H.blk id=Y k->k<w.heap.size:=λid k K=>f.inv.EY K
        have T:∀t l,H.tok t=Y l->l.b<w.heap.size:=λt l z=>f.inv.GM z
        have W:∀id k,H.mp id=Y k->k<w.heap.size:=λid k K=>f.inv.L6 K
        have a6:∀i k,(H.kill id).blk i=Y k->k<w.heap.size:=λi k K=>ν.EY K
        have a7:∀t l,(H.kill id).tok t=Y l->l.b<w.heap.size:=λt l z=>ν.GM z
        have a8:∀i k,(H.kill id).mp i=Y k->k<w.heap.size:=λi k K=>ν.L6 K
        refine CallsIn.mono ((b0 k α a2).run sz φ (w.heap.size+1) b rows.length b1 a4 _
         (λj y=>∃M m,F4 (GJ E.P (JA E θ n L) ca d st p q α) rows j M=Y (Ξ,s')/\y.heap[w.heap.size+1]?=Y (.loop (OJ r a.tmps ps ca d w.heap.size))/\y.heap[w.heap.size]?=Y (.deferred (Y [])) /\
          Ou m (w.heap.size+1)/\Ou m w.heap.size/\Inv E m y M/\Ext L H w m y/\Ext L (H.kill id) w m y)
         (λy=>∃m c,y.heap[w.heap.size+1]?=Y (.loop { OJ r a.tmps ps ca d w.heap.size with state:=.done,pending:=Y c })/\y.heap[w.heap.size]?=Y (.deferred (Y [])) /\
          Ou m (w.heap.size+1)/\Ou m w.heap.size/\Inv E m y s'/\Ext L H w m y/\((Ξ=.ret/\c=.ret)\/∃i,Ξ=.exit i/\c=.exit i))
         σ ((Cg hb2 0).trans a3) ?_ ⟨_,_,hr,hL2,hD2.trans hD1,oL,oD2,i2,(ek.trans Ψ).trans ξ,Ψ.trans ξ⟩) ?_
        ·-- a round
         rintro j y Ω ⟨M,m,B,z,ο,I,χ,X,ex,b6⟩;refine⟨(Cg (ob.ext b6 a5).2 0).trans a3,?_⟩;have⟨C,ε⟩:∃C,rows[j]?=Y C:=⟨_,Az Ω⟩;simp only[F4,ε] at B;cases ψ:az E.P α C with
         | none=>grind[GJ]
         | some v=>
         cases hA:JA E θ n L ca ⟨st.N,Yq (Yq st.U p (Jo (.int .i64 j))) q v,M⟩ with
         | none=>grind[GJ]
         | some rA=>
         obtain⟨oA,ω⟩:=rA;cases oA with
         | exit i=>grind[GJ]
         | ret=>grind[GJ]
         | norm=>
         cases hB:JA E θ n L d ω with
         | none=>grind[GJ]
         | some rB=>
         obtain⟨oB,b7⟩:=rB;simp only[GJ,ψ,hA,hB] at B;unfold az at ψ;split at ψ
         .rename_i hz
          have hszr:C.length=b3:=β.hsz C (A8 ε);have AVz:sz=b3:=AB;subst AVz
          have hVe:V m y (.DF C 0) (.pointer (Y ⟨bb,b2+j*sz+0,G⟩)):=.DF 0 (ff j) λjj c b8=>by
           have⟨π,x2⟩:=β.hc j C jj c ε b8;exact⟨ex.mono _ _ π,by rw[ex.cell _ _ π]; omega,(β.hv j C jj c ε b8).mono ex.mono ex.cell⟩
          obtain⟨x,hx1,hx2⟩:=Mw (s:=M) (t:=α) X hVe Bp;have hps2:ps=#[p,q]:=AB
          refine⟨bb,b2,x,β.hbase (λe=>by grind) AA,λqq hqq=>by
            have⟨a0,Γ⟩:∃a0,C[qq]?=Y a0:=⟨_,Az AA⟩;have⟨π,x2⟩:=β.hc j C qq a0 ε Γ;exact⟨_,(ex.cell _ _ π).trans x2⟩,
           by omega,r,_,ca,d,run_yield z (by grind[OJ]),roundIn_of_wpIn Ay ?_⟩
          have htm:((OJ r a.tmps ps ca d w.heap.size).params.zip #[.int .i64 (j:Int),x]).foldl (λ(tmps:Array ϛ) (t,a)=>tmps.setIfInBounds t a) (OJ r a.tmps ps ca d w.heap.size).tmps=(a.tmps.setIfInBounds p (.int .i64 j)).setIfInBounds q x:=by simp[*,OJ]
          rw[htm]
          have AV0:gN E m y ⟨st.N,Yq (Yq st.U p (Jo (.int .i64 j))) q v,M⟩ { tmps:=(a.tmps.setIfInBounds p (.int .i64 j)).setIfInBounds q x,defers:=[] }:=by
           refine⟨X,by simp[f.size],λt=>?_⟩;rw[r7 (by rw[f.size]; omega) (by rw[f.size]; omega)]
           show V m y (Yq (Yq st.U p (Jo (.int .i64 j))) q v t) _
           by_cases κ:t=q
           .simp[*,Yq]
           .rw[if_neg κ]
            have n1:Nat.beq t q=false:=lH κ
            by_cases μ:t=p
            .grind[Yq,Nat.beq_refl,V.Jo]
            .rw[if_neg μ]
             have n2:Nat.beq t p=false:=lH μ;simp only[Yq,n1,n2,AL];exact(f.tmps t).mono ex
          refine IH (w.heap.size+1) ca _ ω .norm (.inl rfl) hna hA m y _ _ AV0 λa' w' g' q1 q2 ρ q4=>?_
          have⟨ζ,ι⟩:=I.ext ρ (II z);have⟨oD',η⟩:=χ.ext ρ (II ο);have ι:=ι.trans z;have η:=η.trans ο;refine⟨_,run_beginRound ι rfl,?_⟩;have hlt:=II ι;refine IH (w.heap.size+1) d ω b7 oB (.inr rfl) hnb hB g' _ a' _ ⟨q1.inv.M6 ζ _,q1.size,λt=>(q1.tmps t).put ζ _⟩ λa'' w'' Δ a1 r2 ς r4=>?_
          have⟨A,O⟩:=ζ.ext ς (by simp[*]);have⟨τ,a9⟩:=oD'.ext ς (by grind[World.putObj_size]);have O:=O.trans (World.putObj_heap_same hlt);have a9:=(a9.trans (World.putObj_heap_other AA)).trans η;have Θ:=((ex.trans ρ).M6 AA ζ S T W (.loop { OJ r a.tmps ps ca d w.heap.size with state:=.busy })).trans ς;have Tt:=((b6.trans ρ).M6 AA ζ a6 a7 a8 (.loop { OJ r a.tmps ps ca d w.heap.size with state:=.busy })).trans ς;have ALq:=II O;cases oB with
          | norm=>
           refine⟨_,_,run_endRound G O,.inl ⟨rfl,b7.s,Δ,B,?_,?_,A,τ,a1.inv.M6 A _,Θ.M6 AA A S T W _,Tt.M6 AA A a6 a7 a8 _⟩⟩
           .exact World.putObj_heap_same ALq
           grind[World.putObj_heap_other]
          | ret=>
           simp only[BU,Bg] at B;obtain⟨rfl,rfl⟩:=B;refine⟨_,_,run_endRound (Y .ret) O,.inr ⟨rfl,Δ,.ret,?_,?_,A,τ,a1.inv.M6 A _,Θ.M6 AA A S T W _,.inl ⟨rfl,rfl⟩⟩⟩
           all_goals grind[World.putObj_heap_same,World.putObj_heap_other]
          | exit i=>
           simp only[BU,Bg] at B;obtain⟨rfl,rfl⟩:=B;refine⟨_,_,run_endRound (Y (.exit i)) O,.inr ⟨rfl,Δ,.exit i,?_,?_,A,τ,a1.inv.M6 A _,Θ.M6 AA A S T W _,.inr ⟨i,rfl,rfl⟩⟩⟩
           all_goals grind[World.putObj_heap_same,World.putObj_heap_other]
         grind
        ·-- the end
         rintro e w' ⟨⟨v,rfl⟩,Ω⟩;rcases Ω with ⟨M,m,B,z,ο,I,χ,X,ex,_⟩|⟨m,c,z,ο,I,χ,X,ex,Γ⟩
         .simp only[F4,BU,Bg] at B
          obtain⟨rfl,rfl⟩:=B;refine⟨_,_,run_endLoop z (by simp[OJ]),?_⟩
          exact hQ { a with defers:=[bQ w.heap.size]++a.defers } _ m ⟨X.M6 I _,f.size,λt=>((f.tmps t).mono ex).put I _⟩
           ⟨[w.heap.size],rfl,AD,λD η=>by grind[World.putObj_heap_other]⟩ (ex.M6 AA I S T W _) rfl
         .refine⟨_,_,run_endLoop z AD,?_⟩
          have b9:=hQ { a with defers:=[bQ w.heap.size]++a.defers } _ m ⟨X.M6 I (.loop { OJ r a.tmps ps ca d w.heap.size with state:=.exhausted,pending:=Y c }),f.size,λt=>((f.tmps t).mono ex).put I _⟩
           ⟨[w.heap.size],rfl,AD,λD η=>by grind[World.putObj_heap_other]⟩ (ex.M6 AA I S T W _) rfl
          rcases Γ with ⟨rfl,rfl⟩|⟨i,rfl,rfl⟩
          .exact wpIn_ret b9
          .exact wpIn_exit b9
     grind
   grind
  grind
 grind
def ow {E:Env} {S:Ba->DH} {L:Ba} (γ:IL E L (S L)) (ι:E.P.follows .mixedOrders=Z) (ς:∀k t,E.back k=Y t->TN E.P k t) :
  ∀(n:Nat) (rd:Option Nat) (c:Code) (st r:St) (o:Out),(rd=G\/JZ c=Z)->Ej L.pl c=Z->JA E S n L c st=Y (o,r) ->
   Ts E L st o r (λQ=>c.wpIn (FW rd) 0 E.P Q)/\∀b,c=.loop b->Ts E L st o r (λQ=>M7 rd E.P b Q):=by
 intro n
 induction n with
 | zero=>grind[JA]
 | succ n C=>
  intro rd c st r o D A h
  have done:∀(T:Out) {W:(Exit->Act->ϙ->Prop)->Act->ϙ->Prop},(∀Q a w,Q T.r0 a w->W Q a w)->Y (T,st)=Y (o,r)->Ts E L st o r W:=by
   intro T W τ e g w a Q d f
   grind[Marks.refl,Ext.refl]
  cases c with
  | skip=>exact⟨done .norm (λ_ _ _ h=>wpIn_skip h) h,λ_ e=>by grind⟩
  | ret=>exact⟨done .ret (λ_ _ _ h=>wpIn_ret h) h,λ_ e=>by grind⟩
  | exit id=>exact⟨done (.exit id) (λ_ _ _ h=>wpIn_exit h) h,λ_ e=>by grind⟩
  | region id H κ=>
   refine⟨?_,λ_ e=>by grind⟩;cases κ with
   | false=>
    simp only[JA] at h;split at h
    .rename_i GD B
     simp only[BU,Bg] at h;obtain⟨rfl,rfl⟩:=h;intro g w a Q d f;refine wpIn_region ?_;have:=gO (rd:=rd) (Q:=Q) γ H.toList.length 0 H.toList st GD a w g rfl rfl d B (λi l s q1 z m u=>f i l s q1 (by grind[Marks.refl]) m u)
     grind[List.range_eq_range']
    grind
   | true=>
    simp only[JA] at h;simp only[Ej,AK] at A
    have σ:∀(k:Nat) (GD:St),(match L.pl k with|some p=>Ta H p|none=>Z)=Z->Kj E L (S L) H st (L.pl k)=Y GD->Y (Out.norm,GD)=Y (o,r)->Ts E L st o r (λQ=>(Code.region id H Z).wpIn (FW rd) 0 E.P Q):=by
     intro k GD U B e;simp only[BU,Bg] at e;obtain⟨rfl,rfl⟩:=e;cases ξ:L.pl k with
     | none=>grind[Kj]
     | some p=>
      rw[ξ] at B U;simp only[Kj] at B;simp only at U;intro g w a Q d f;exact gM γ ι U d.inv d.size d.tmps B λi l s q1 z m u ο π=>f i l s ⟨u,q1,ο⟩ (by grind[Marks.refl]) m π
    grind[rI]
  | seq x y=>
   refine⟨?_,λ_ e=>by grind⟩;simp only[Ej,AK] at A;have δ:rd=G\/JZ x=true:=D.imp (λx=>x) λe=>by grind[JZ]
   have μ:rd=G\/JZ y=true:=D.imp (λx=>x) λe=>by grind[JZ]
   simp only[JA] at h;intro g w a Q d f;refine wpIn_seq ?_;split at h
   .rename_i GD B
    refine(C rd x st GD .norm δ A.1 B).1 g w a _ d λi l s q1 z m u=>?_
    exact(C rd y GD r o μ A.2 h).1 s l i _ q1 λM N O X α I β=>f M N O X (z.trans I rfl m.size α) (m.trans I) (β.trans u)
   .rename_i ε
    refine(C rd x st r o δ A.1 h).1 g w a _ d λi l s q1 z m u=>?_
    have:=f i l s q1 z m u;cases o with
    | norm=>grind
    | exit id=>exact this
    | ret=>exact this
  | cond c x y=>
   refine⟨?_,λ_ e=>by grind⟩;simp only[Ej,AK] at A;simp only[JA] at h;intro g w a Q d f;split at h
   .rename_i t ρ
    have θ:=A9 d.tmps c;rw[ρ] at θ;refine wpIn_cond θ.DX ?_;cases t with
    | true=>exact(C rd x st r o (D.imp (λx=>x) λe=>by grind[JZ]) A.1 h).1 g w a _ d f
    | false=>exact(C rd y st r o (D.imp (λx=>x) λe=>by grind[JZ]) A.2 h).1 g w a _ d f
   grind
  | block id b=>
   refine⟨?_,λ_ e=>by grind⟩;simp only[Ej] at A;simp only[JA] at h;intro g w a Q d f;refine wpIn_block ?_;split at h
   .rename_i j GD B
    refine(C rd b st GD (.exit j) (D.imp (λx=>x) λe=>by assumption) A B).1 g w a _ d λi l s q1 z m u=>?_
    show if j=id then Q .normal i l else Q (.exit j) i l
    cases K:Nat.beq j id with
    | true=>
     rw[K] at h;simp only[AQ,BU,Bg] at h;obtain⟨rfl,rfl⟩:=h;rw[if_pos (CV K)];exact f i l s q1 z m u
    | false=>
     rw[K] at h;simp only[AL,BU,Bg] at h;obtain⟨rfl,rfl⟩:=h;rw[if_neg (Nat.ne_of_beq_eq_false K)];exact f i l s q1 z m u
   .rename_i ε
    refine(C rd b st r o (D.imp (λx=>x) λe=>by assumption) A h).1 g w a _ d λi l s q1 z m u=>?_
    have:=f i l s q1 z m u;cases o with
    | norm=>exact this
    | exit id=>grind
    | ret=>exact this
  | loop b=>
   have ζ:Ej L.pl b=true:=Bp;have η:rd=G\/JZ b=true:=D.imp (λx=>x) λe=>by assumption
   have ν:Ts E L st o r (λQ=>M7 rd E.P b Q):=by
    simp only[JA] at h;intro g w a Q d f;refine M7.round ?_;split at h
    .rename_i GD B
     refine(C rd b st GD .norm η ζ B).1 g w a _ d λi l s q1 z m u=>?_
     exact(C rd (.loop b) GD r o D A h).2 b rfl s l i _ q1 λM N O X α I β=>f M N O X (z.trans I rfl m.size α) (m.trans I) (β.trans u)
    .rename_i ε
     refine(C rd b st r o η ζ h).1 g w a _ d λi l s q1 z m u=>?_
     have:=f i l s q1 z m u;cases o with
     | norm=>grind
     | exit id=>exact this
     | ret=>exact this
   exact⟨λg w a Q d f=>(ν g w a Q d f).wp,λυ e=>by grind⟩
  | rangeFunc φ ps ca χ=>
   grind[Ej,ZI,JZ]
  | _=>simp[JA] at h
def zL (b:Array ϛ):ResultVar->Sem ϛ
 | .tmp t=>pure (b.getD t undef)
 | .cell x t=>do loadVar t (<-asAddr (b.getD x undef))
def gT (fn:Func) (b:Array ϛ):results fn b=(do let vs <-fn.results.mapM (zL b); pure (if h:vs.size=1 then vs[0] else .tuple vs)):=by
 rfl
def gU {E:Env} {g:AZ} {w:ϙ} {st:St} {a:Act} (hs:gN E g w st a) {r:ResultVar} {v:AV} (h:Nx E st r=Y v) :
  ∃u,(zL a.tmps r).run E.P w=.ok u w/\V g w v u:=by
 cases r with
 | tmp t=>
  simp[Nx] at h; subst h;exact⟨_,rfl,hs.tmps t⟩
 | cell x t=>
  simp only[Nx] at h;have⟨u,b,d⟩:=Mw hs.inv (hs.tmps x) h;refine⟨u,?_,d⟩;simp only[zL];generalize a.tmps.getD x undef=q at b ⊢;simp only[Instr.loadAt] at b;cases q with
  | pointer p=>
   cases p with
   | none=>simp_all[Instr.sureAddr]
   | some p=>assumption
  | _=>simp_all[Instr.sureAddr]
def Ry {E:Env} {g:AZ} {w:ϙ} {st:St} {a:Act} (hs:gN E g w st a):∀(b:List ResultVar) (vs:Ϭ),GI E st b=Y vs ->
  ∃us,(b.mapM (zL a.tmps)).run E.P w=.ok us w/\VL g w vs us
 | [],vs,h=>by
  simp[GI] at h; subst h;exact⟨[],AD,.nil⟩
 | r::b,vs,h=>by
  simp only[GI] at h;split at h
  .rename_i v d e f
   simp at h; subst h;have⟨u,k1,k2⟩:=gU hs e;have⟨us,k3,k4⟩:=Ry hs b d f;refine⟨u::us,?_,.cons k2 k4⟩;simp[*]
  grind
def WL {E:Env} {g:AZ} {w:ϙ} {st:St} {a:Act} {fn:Func} {vs:Ϭ} (hs:gN E g w st a) (h:GI E st fn.results.toList=Y vs) :
  ∃u,(results fn a.tmps).run E.P w=.ok u w/\V g w (H9 vs) u:=by
 have⟨us,d,b⟩:=Ry hs _ _ h
 have e:(results fn a.tmps).run E.P w=.ok (if h:us.toArray.size=1 then us.toArray[0] else .tuple us.toArray) w:=by
  rw[gT,kU];simp[d]
 refine⟨_,e,?_⟩
 match vs,b with
 | [],b=>
  have:=b.Fb
  grind[H9,V.tuple']
 | [v],b=>
  obtain⟨u,i,rfl,k1,k2⟩:=b.cases;have:=k2.Fb
  grind[H9]
 | v1::k::j,b=>
  have f:=b.len;simp only[CP] at f;rw[dif_neg AB];exact V.tuple' b
def Rz {g:AZ} {w:ϙ}:∀(args:Ϭ) (vs:List ϛ) (n t:Nat),VL g w args vs->V g w (Rq args t) ((vs++List.replicate n undef)[t]?.getD undef)
 | [],vs,n,t,h=>by
  rw[h.Fb];have:((([]:List ϛ)++List.replicate n undef)[t]?.getD undef)=undef:=AB;rw[this];exact V.tuple' .nil
 | x::b,vs,n,t,h=>by
  obtain⟨u,us,rfl,e,d⟩:=h.cases;cases t with
  | zero=>assumption
  | succ t=>simpa[Rq] using Rz b us n t d
def Pu {P:ϟ} {fn:Func} {d:Array ϛ} {R:Ending->ϙ->Prop} {g:AZ}:∀(b:Ϟ) (w:ϙ),b.Nodup->(∀D∈b,w.heap[D]?=Y (.deferred (Y []))) ->
  (∀w',(∀k,k∉b->w'.heap[k]?=w.heap[k]?)->w'=b.foldl (λw D=>w.putObj D (.deferred G)) w->LeavesIn (FW G) 0 P fn d R [] .returning w')->LeavesInM (FW G) 0 P fn d R (b.map bQ) .returning w
 | [],w,_,_,h=>h w (λ_ _=>rfl) rfl
 | D::b,w,hn,e,h=>by
  simp only[Yg] at hn;refine⟨AD,.inl ⟨D,_,rfl,run_takeDeferred (e D (Lv ..)),?_⟩⟩;refine Pu (g:=g) b _ hn.2 (λj f=>?_) λw' l i=>?_
  all_goals grind[World.putObj_heap_other]
def sA {E:Env} {L:Ba} {g g':AZ} {w:ϙ} {s:AY} (i:∀id k,g.blk id=Y k->k<w.heap.size) (j:∀t l,g.tok t=Y l->l.b<w.heap.size) (m:∀id k,g.mp id=Y k->k<w.heap.size) :
  ∀(d:Ϟ) (w':ϙ),(∀D∈d,w.heap.size<=D/\Ou g' D)->Inv E g' w' s->Ext L g w g' w' ->
   Inv E g' (d.foldl (λw D=>w.putObj D (.deferred G)) w') s/\Ext L g w g' (d.foldl (λw D=>w.putObj D (.deferred G)) w') /\
   ∀x v,V g' w' x v->V g' (d.foldl (λw D=>w.putObj D (.deferred G)) w') x v
 | [],_,_,e,f=>⟨e,f,λ_ _ h=>h⟩
 | D::d,w',n,e,f=>by
  have⟨a,b⟩:=n D (Lv ..);have⟨o,p,r⟩:=sA i j m d (w'.putObj D (.deferred G)) (λu h=>n u (C4 _ h)) (e.M6 b _) (f.M6 a b i j m _);exact⟨o,p,λx v h=>r x v (h.put b _)⟩
def Ks {E:Env} {A:Ba->DH} {n:Nat} {L:Ba} {f:ϣ} {fn:Func} {args:Ϭ} {s B:AY} {v:AV} {g:AZ} {w:ϙ} {vs:List ϛ} {body:Code} (O:IL E L (A L)) (M:E.P.follows .mixedOrders=Z) (Q:∀k t,E.back k=Y t->TN E.P k t)
  (S:E.P.funcs[f]?=Y fn) (x:fn.body=Y body) (T:Ej L.pl body=Z) (μ:args.length<=fn.ntmps)
  (d:Inv E g w s) (y:VL g w args vs) (h:J1 E A n fn L args s=Y (v,B)) :
  Calls E.P f vs.toArray w λe w'=>∃b g',e=.returned b/\V g' w' v b/\Ext L g w g' w'/\Inv E g' w' B:=by
 unfold J1 at h;rw[x] at h;simp only at h;refine(callsIn_wide (n:=0)).1 (callsIn_of_wp_marks (F:=FW G) S x Ay ?_ rfl)
 have β:gN E g w ⟨fn.ntmps,Rq args,s⟩ { tmps:=vs.toArray++Array.replicate (fn.ntmps-vs.toArray.size) undef,defers:=[] }:=by
  refine⟨d,?_,λt=>?_⟩
  .have:=y.len
   grind
  .have:=Rz args vs (fn.ntmps-vs.length) t y
   simp_all[Array.getElem?_append,List.getElem?_append,Array.getElem?_replicate,List.getElem?_replicate]
 split at h
 .grind
 .rename_i o st κ U
  split at h
  .rename_i γ W
   simp only[BU,Bg] at h;obtain⟨rfl,rfl⟩:=h;refine(ow O M Q n G body _ _ _ (.inl rfl) T U).1 g w _ _ β λj w' g' q1 δ ε ν=>?_
   have z:LeavesInM (FW G) 0 E.P fn j.tmps (λe w'=>∃b g',e=.returned b/\V g' w' (H9 γ) b/\Ext L g w g' w'/\Inv E g' w' st.s) j.defers .returning w':=by
    obtain⟨C,H,ζ,m⟩:=δ;simp only[G9] at H;rw[H];refine Pu (g:=g') C w' ζ (λD i=>(m D i).2.1) λX _ N=>?_
    have⟨p,I,K⟩:=sA (E:=E) (L:=L) (g:=g) (g':=g') (w:=w) (s:=st.s) (λid k r=>d.EY r) (λt l η=>d.GM η) (λid k r=>d.L6 r) C w' (λD i=>⟨(m D i).1,(m D i).2.2⟩) q1.inv ε;rw[<-N] at p I K;have α:gN E g' X st j:=⟨p,q1.size,λt=>K _ _ (q1.tmps t)⟩;have⟨u,θ,ι⟩:=WL α W;exact⟨u,θ,u,g',rfl,ι,I,p⟩
   cases o with
   | norm=>exact z
   | exit id=>grind
   | ret=>exact z
  grind
 grind
def Ext.Ar {L L':Ba} {g g':AZ} {w w':ϙ} (h:Ext L g w g' w') (f:L'.ro=L.ro) (i:L'.rt=L.rt):Ext L' g w g' w':=
 {os:=h.os,tape:=h.tape,output:=h.output,size:=h.size,mono:=h.mono,cell:=h.cell,blk:=h.blk,dead:=h.dead,shape:=h.shape,tok:=h.tok,out:=h.out,HY:=h.HY,K5:=h.K5,Db:=h.Db,mp:=h.mp,K4:=h.K4
  F6:=λid b hb=>⟨λd=>(h.F6 id b hb).1 AA,(h.F6 id b hb).2⟩
  GK:=λid b hb d=>h.GK id b hb AA
  F5:=λt l e d=>h.F5 t l e AA }
def Q1 (E:Env) (f:ϣ) (T:Ba->Ϭ->AY->Option (AV×AY)):Prop:=
 ∀(L:Ba) (j:Ϭ) (s k:AY) (v:AV) (g:AZ) (w:ϙ) (l:List ϛ),T L j s=Y (v,k)->Inv E g w s->VL g w j l ->
  (∃b,E.P.funcs[f]?=Y b/\b.body.isSome=Z/\(b.name== "runtime.NumGoroutine")=ϴ) /\
  Calls E.P f l.toArray w λe d=>∃m i,e=.returned m/\V i d v m/\Ext L g w i d/\Inv E i d k
structure Good (E:Env):Prop where
 mix:E.P.follows .mixedOrders=Z
 plans:∀(f:ϣ) (fn:Func) (body:Code),E.P.funcs[f]?=Y fn->fn.body=Y body->Ej (E.plan f) body=Z
 names:∀(f:ϣ) (fn:Func),E.P.funcs[f]?=Y fn->fn.body.isSome=Z->(fn.name== "runtime.NumGoroutine")=ϴ
 lF:∀f T,E.told f=Y T->Q1 E f T
 Tp:∀k t,E.back k=Y t->TN E.P k t
 ZF:∀f,E.clone f=Z->E.told f=G->(∃fn,E.P.funcs[f]?=Y fn/\fn.body.isSome=Z) /\
  ∀(w:ϙ) (base:Option Addr) (cap:Nat),Calls E.P f #[.slice base 0 cap] w λe w'=>∃b',e=.returned (.slice b' 0 0)/\(w'=w\/∃o,w'=Mk w o)
theorem ZJ {E:Env} {z:Ba->DH} {n:Nat} {L:Ba} {f:ϣ} {fn:Func} {args:Ϭ} {s i:AY} {v:AV} {g:AZ} {w:ϙ} {vs:List ϛ} {body:Code} (d:Good E) (u:∀L,IL E L (z L))
  (p:E.P.funcs[f]?=Y fn) (l:fn.body=Y body) (j:Inv E g w s) (m:VL g w args vs) (h:Ed E z n L f fn args s=Y (v,i)) :
  Calls E.P f vs.toArray w λe w'=>∃b g',e=.returned b/\V g' w' v b/\Ext L g w g' w'/\Inv E g' w' i:=by
 have A:=d.plans f fn body p l;unfold Ed at h;split at h
 .rename_i B
  have pure:∀o,BZ [] 0 0 args=Y o->JJ E z n f fn o s=Y (v,i)->Calls E.P f vs.toArray w λe w'=>∃b g',e=.returned b/\V g' w' v b/\Ext L g w g' w'/\Inv E g' w' i:=by
   intro o K h;have D:VL (AZ.bare g.I) w o vs:=Gk Ph.nil G0.bare _ _ _ K m;have M:o.length<=fn.ntmps:=by rw[D.len,<-m.len]; omega
   unfold JJ at h;split at h
   .rename_i x H hb
    split at h
    .rename_i y N
     simp only[BU,Bg] at h;obtain⟨rfl,rfl⟩:=h;refine(Ks (u _) d.mix d.Tp p l A M j.bare D hb).mono ?_;rintro e w' ⟨b,g',rfl,C,hx,r⟩;have⟨O,Q,S,T⟩:=ru (L:=L) j hx r
     grind[Iq]
    grind
   grind
  have U:∀t,t.ro=L.ro->t.rt=L.rt->t.pl=E.plan f->(match J1 E z n fn t args s with|some (v,i)=>IA (L.rr f) s.bs.length v i|none=>G)=Y (v,i) ->
    Calls E.P f vs.toArray w λe w'=>∃b g',e=.returned b/\V g' w' v b/\Ext L g w g' w'/\Inv E g' w' i:=by
   intro t W X e3 h;split at h
   .rename_i x H hb
    refine(Ks (u _) d.mix d.Tp p l AB B j m hb).mono ?_
    grind[bN]
   grind
  generalize E.kind f=k at h;cases k with
  | esc=>
   refine(Ks (u _) d.mix d.Tp p l A B j m h).mono ?_;rintro e w' ⟨b,g',rfl,C,hx,r⟩;exact⟨b,g',rfl,C,hx.Ar rfl rfl,r⟩
  | rd=>
   simp only at h;split at h
   .grind
   .split at h
    .rename_i x H hb
     split at h
     .rename_i y N
      simp only[BU,Bg] at h;obtain⟨rfl,rfl⟩:=h;refine(Ks (u _) d.mix d.Tp p l A B j m hb).mono ?_;rintro e w' ⟨b,g',rfl,C,hx,r⟩;have⟨O,Q,S,T⟩:=AE5 (L:=L) j rfl rfl hx r
      grind[Iq]
     grind
    grind
  | im=>
   grind[HT]
  | st=>grind
 grind
def sB {E:Env} (i:Good E) {n:Nat} {j:Ba->DH} (W:∀L,IL E L (j L)) (L:Ba) :
  IL E L (λf args s=>match E.P.funcs[f]? with
   | some fn=>bif E.clone f then Pb E L f args s (Ed E j n L f fn args s) else Ed E j n L f fn args s
   | none=>G):=by
  intro f args s m v g w A h B r;simp only at h;split at h
  .rename_i fn t
   have S:Ed E j n L f fn args s=Y (v,m)->(∃fn,E.P.funcs[f]?=Y fn/\fn.body.isSome=Z/\(fn.name== "runtime.NumGoroutine")=ϴ) /\
     Calls E.P f A.toArray w λe d=>∃C p,e=.returned C/\V p d v C/\Ext L g w p d/\Inv E p d m:=by
    intro h;cases hb:fn.body with
    | none=>
     grind[Ed,J1,JJ]
    | some U=>
     refine⟨⟨fn,t,AB,i.names f fn t AB⟩,?_⟩
     grind[ZJ]
   cases y:E.clone f with
   | true=>
    rw[y] at h;simp only[AQ,Pb] at h;cases k:E.told f with
    | some T=>
     rw[k] at h;exact i.lF f T k L args s m v g w A h B r
    | none=>
     rw[k] at h;simp only at h;cases l:J2 args with
     | false=>grind
     | true=>
      rw[l] at h;simp only[AQ,BU,Bg] at h;obtain⟨rfl,rfl⟩:=h;have⟨⟨z,k1,k2⟩,k3⟩:=i.ZF f y k;refine⟨⟨z,k1,k2,i.names f z k1 k2⟩,?_⟩;unfold J2 at l;split at l
      .rename_i x
       obtain⟨u,us,rfl,I,K⟩:=r.cases;have:=K.Fb;subst this;split at l
       .rename_i M
        obtain⟨D,H,b,o,sz,q,rfl,_,_⟩:=EU I M;refine(k3 w D H).mono ?_;rintro e d ⟨N,rfl,O⟩;have X:∀g d,V g d (.AE []) (.slice N 0 0):=λg d=>V.AE (rows:=[]) (b:=0) (o:=0) (sz:=0) (f:=λ_ _=>undef) Em.nil
        rcases O with rfl|⟨Q,rfl⟩
        .grind[Ext.refl]
        .have⟨α,β⟩:=Inv.ku (L:=L) B Q
         grind
       grind
      grind
   | false=>
    grind
  grind
def R1 {E:Env} (d:Good E):∀(n:Nat) (L:Ba),IL E L (Dk E n L)
 | 0,L=>by intro f b s e v g w i h; grind[Dk]
 | n+1,L=>λf b s e v g w i h k j=>sB d (n:=n) (R1 d n) L f b s e v g w i Bp k j
end Go.Tel
