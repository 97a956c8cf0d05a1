/-
  Code: each piece that the evaluator answers is walked as it says.
-/
import Derived.Test.YtpgfpakdnijngaaGreatDoorEvO
set_option linter.all false
namespace Go.Tel
def L8 (rd:Option Nat) (P:Program) (c:Code) (Q:Exit->Act->World->Prop) (a:Act) (w:World):Prop:=
 ∀(b:Frame) (k:List Item) (cs:List Frame),b.roundOf=(FW rd).round->(FW rd).fn b.fn->(FW rd).room (cs.length+1+0) ->
  ∃e a' w',Q e a' w'/\ArrivesIn (Machine.fenced P (FW rd)) P (lone (b.atR a (.code c::.inLoop c::k)) cs w) b k cs e a' w'
theorem L8.wp {rd:Option Nat} {P:Program} {c:Code} {Q:Exit->Act->World->Prop} {a:Act} {w:World} (h:L8 rd P c Q a w):(Code.loop c).wpIn (FW rd) 0 P Q a w:=by
 intro b k cs hro hb hr;obtain⟨e,a',w',hq,X7⟩:=h b k cs hro hb hr;exact⟨e,a',w',hq,.of_steps (.one (fenced_calm hb hr rfl) stepR_loop) X7⟩
theorem L8.round {rd:Option Nat} {P:Program} {c:Code} {Q:Exit->Act->World->Prop} {a:Act} {w:World} (h:c.wpIn (FW rd) 0 P (Exit.then (L8 rd P c Q) Q) a w):L8 rd P c Q a w:=by
 intro b k cs hro hb hr;obtain⟨e,a₁,w₁,hq,X7⟩:=h b (.inLoop c::k) cs hro hb hr;cases e with
 | normal=>
  obtain⟨e₂,a₂,w₂,hq₂,AOL⟩:=hq b k cs hro hb hr;exact⟨e₂,a₂,w₂,hq₂,.of_steps (StepsIn.trans X7 (.one (fenced_calm hb hr rfl) stepR_inLoop)) AOL⟩
 | exit id=>exact⟨_,a₁,w₁,hq,.pass (x:=.inLoop c) rfl (λ_ _=>.inl (by simp)) X7⟩
 | goto l=>exact⟨_,a₁,w₁,hq,.pass (x:=.inLoop c) rfl (λ_ _=>.inl (by simp)) X7⟩
 | ret=>exact⟨_,a₁,w₁,hq,.pass (x:=.inLoop c) rfl (λ_ _=>.inl (by simp)) X7⟩
 | panic ch=>exact⟨_,a₁,w₁,hq,.pass (x:=.inLoop c) rfl (λ_ _=>.inl (by simp)) X7⟩
 | outgrown=>exact⟨_,a₁,w₁,hq,.pass (x:=.inLoop c) rfl (λ_ _=>.inl (by simp)) X7⟩
def Out.s7:Out->Exit
 | .norm=>.normal
 | .exit id=>.exit id
 | .ret=>.ret
def Sz (E:Env) (L:A3) (st:St) (o:Out) (st':St) (W:(Exit->Act->World->Prop)->Act->World->Prop):Prop:=
 ∀(g:AE) (w:World) (a:Act) (Q:Exit->Act->World->Prop),ej E g w st a ->
  (∀a' w' g',ej E g' w' st' a'->Marks w.heap.size a.defers g' w' a'.defers->Ext L g w g' w'->st'.N=st.N->Q o.s7 a' w')->W Q a w
def M4 (fn:FuncId) (tmps:Array Value) (ps:Array Tmp) (ca cb:Code) (D:Nat):Loop:={ state:=.ready,pending:=none,fn,tmps,params:=ps,assign:=ca,body:=cb,defers:=D }
theorem s8 {tmps:Array Value} {p q t:Nat} {u x:Value} (hp:p<tmps.size) (hq:q<tmps.size) :
  ((tmps.setIfInBounds p u).setIfInBounds q x).getD t undef=if t=q then x else if t=p then u else tmps.getD t undef:=by
 simp only[Array.getD_eq_getD_getElem?,Array.getElem?_setIfInBounds,Array.size_setIfInBounds]
 grind
set_option maxHeartbeats 1000000 in
theorem X9 {E:Env} {cf:A3->Cp} {L:A3} {n:Nat} {g:Operand} {ps:Array Tmp} {ca cb:Code} {st st':St} {o:Out} (ru:∀k t,E.back k=some t->SK E.P k t)
  (IH:∀(l:Nat) (c:Code) (st st':St) (o:Out),(c=ca\/c=cb)->KT c=true->Jd E cf n L c st=some (o,st')->Sz E L st o st' (λQ=>c.wpIn (FW (some l)) 0 E.P Q))
  (h:Jd E cf (n+1) L (.rangeFunc g ps ca cb) st=some (o,st')):Sz E L st o st' (λQ=>(Code.rangeFunc g ps ca cb).wpIn (FW none) 0 E.P Q):=by
 simp only[Jd] at h;split at h
 .rename_i k id p q hg hps
  split at h
  .rename_i el c AZx AEn YA
   split at h
   .rename_i rows hrows
    cases hc:(Nat.ble L.ro id&&(KT ca&&(KT cb&&(Nat.blt p st.N&&(Nat.blt q st.N&&(!Nat.beq p q&&(Nat.ble rows.length 1000000000000000000&&(Dk E.P el).isSome))))))) with
    | false=>grind
    | true=>
     rw[hc] at h;simp only[AN] at h;simp only[AG] at hc;obtain⟨hro,hna,hnb,hp,hq,hpq,hlen,hsz⟩:=hc;have hro:=Cm hro;have hp:p<st.N:=by simp_all
     have hq:q<st.N:=by simp_all
     have hlen:=Cm hlen;obtain⟨sz,hsz⟩:=MZ.1 hsz;split at h
     .rename_i o1 s' hr
      simp only[Au,A0] at h;obtain⟨rfl,rfl⟩:=h;intro gh w a Q hs hQ;have hv:=Aa hs.tmps g;rw[hg] at hv;obtain⟨vs,us,hval,h1,h2⟩:=hv.Sh;have:=h1.EL;subst this;obtain⟨u,us',rfl,hu,hn⟩:=h2.cases;have:=hn.EL;subst this;cases hu with
      | KU hd=>
       have:=hs.inv.DI id hd
       grind
      | @ptr _ _ b hb=>
       obtain⟨cs,vs,e,k1,k2,kle,k3⟩:=hs.inv.blk id b hb;rw[YA] at k1;simp only[Au] at k1;subst k1;cases vs with
       | nil=>grind
       | cons v0 vs=>
       obtain⟨base,cap,bb,off,szr,ff,rfl,hcap,hrow⟩:=Dy k3.head hrows;have hcell:w.cell? ⟨b,0,none⟩=some (.slice base rows.length cap):=by grind[World.cell?]
       have AOM:=hs.inv.Dm hb;obtain⟨ek,ik⟩:=hs.inv.kill (L:=L) hb hro
       have ob:Nf (gh.kill id) b:=by
        refine⟨λid' hb'=>?_,λt l hl=>E4 (hs.inv.Cu id b t l hb hl),λid' hb'=>hs.inv.mpB hb' hb,λi=>hs.inv.FA id b i hb⟩;simp only[AE.kill] at hb';split at hb'
        .grind
        .rename_i hne
         exact hne (hs.inv.EF id' id b hb' hb)
       obtain⟨e1,i1,oD⟩:=ik.AEm (L:=L) (.deferred (some []));refine wpIn_rangeFunc λfn hfn=>?_
       obtain⟨e2,i2,oL⟩:=i1.AEm (L:=L) (.loop (M4 fn a.tmps ps ca cb w.heap.size));rw[World.size_alloc] at oL;have hD1:(w.alloc (.deferred (some []))).heap[w.heap.size]?=some (.deferred (some [])):=World.alloc_heap_new _ _;obtain⟨oD2,hD2⟩:=oD.ext e2 (by simp);have hL2:((w.alloc (.deferred (some []))).alloc (.loop (M4 fn a.tmps ps ca cb w.heap.size))).heap[w.heap.size+1]?=some (.loop (M4 fn a.tmps ps ca cb w.heap.size)):=by grind[World.alloc_heap_new,World.size_alloc]
       have Ll:=(ob.ext (e1.trans e2) AOM).2;obtain⟨fnk,ZQ,hk2,R2⟩:=(ru k el AEn).body;have hne:¬ fnk.body=none:=λe=>by grind
       refine⟨w.heap.size+1,[Z0 w.heap.size],(w.alloc (.deferred (some []))).alloc (.loop (M4 fn a.tmps ps ca cb w.heap.size)),({ target:=.fn (.func k) #[.pointer (some ⟨b,0,none⟩)],args:=#[.func (.yield (w.heap.size+1)) #[] #[]] }:Deferred),
        (w.alloc (.deferred (some []))).alloc (.loop (M4 fn a.tmps ps ca cb w.heap.size)),k,#[.func (.yield (w.heap.size+1)) #[] #[],.pointer (some ⟨b,0,none⟩)],(w.alloc (.deferred (some []))).alloc (.loop (M4 fn a.tmps ps ca cb w.heap.size)),
        run_enterLoop_outer fn a.tmps ps ca cb,?_,λ_ _=>trivial,?_,λ(e:(FW none).depth.isSome=true)=>by grind[FW,Fence.wide],?_⟩
       .simp[resolve,rangeCall,hval,Deferred.ofValue]
        rfl
       .simp_all[invoke,callFunc]
       .have Ng:∀id k,gh.blk id=some k->k<w.heap.size:=λid k hk=>hs.inv.Dm hk
        have rD:∀t l,gh.tok t=some l->l.b<w.heap.size:=λt l hl=>hs.inv.Ff hl
        have hml:∀id k,gh.mp id=some k->k<w.heap.size:=λid k hk=>hs.inv.JG hk
        have AON:∀i k,(gh.kill id).blk i=some k->k<w.heap.size:=λi k hk=>ik.Dm hk
        have AOO:∀t l,(gh.kill id).tok t=some l->l.b<w.heap.size:=λt l hl=>ik.Ff hl
        have AOP:∀i k,(gh.kill id).mp i=some k->k<w.heap.size:=λi k hk=>ik.JG hk
        refine CallsIn.mono ((ru k el AEn).run sz hsz (w.heap.size+1) b rows.length cap base _
         (λj W1=>∃s1 g1,Jo (JB E.P (Jd E cf n L) ca cb st p q el) rows j s1=some (o1,s')/\W1.heap[w.heap.size+1]?=some (.loop (M4 fn a.tmps ps ca cb w.heap.size))/\W1.heap[w.heap.size]?=some (.deferred (some [])) /\
          Nf g1 (w.heap.size+1)/\Nf g1 w.heap.size/\Inv E g1 W1 s1/\Ext L gh w g1 W1/\Ext L (gh.kill id) w g1 W1)
         (λW1=>∃g1 c,W1.heap[w.heap.size+1]?=some (.loop { M4 fn a.tmps ps ca cb w.heap.size with state:=.done,pending:=some c })/\W1.heap[w.heap.size]?=some (.deferred (some [])) /\
          Nf g1 (w.heap.size+1)/\Nf g1 w.heap.size/\Inv E g1 W1 s'/\Ext L gh w g1 W1/\((o1=.ret/\c=.ret)\/∃i,o1=.exit i/\c=.exit i))
         hlen ((B4 Ll 0).trans hcell) ?_ ⟨_,_,hr,hL2,hD2.trans hD1,oL,oD2,i2,(ek.trans e1).trans e2,e1.trans e2⟩) ?_
        ·-- a round
         rintro j W1 hj ⟨s1,g1,R3,hl,hD,oL1,oD1,i1',ex,exk⟩;refine⟨(B4 (ob.ext exk AOM).2 0).trans hcell,?_⟩;obtain⟨row,sk⟩:∃row,rows[j]?=some row:=⟨_,Ak hj⟩;simp only[Jo,sk] at R3;cases hel:rm E.P el row with
         | none=>grind[JB]
         | some v=>
         cases hA:Jd E cf n L ca ⟨st.N,ZX (ZX st.ρ p (IE (.int .i64 j))) q v,s1⟩ with
         | none=>grind[JB]
         | some rA=>
         obtain⟨oA,stA⟩:=rA;cases oA with
         | exit i=>grind[JB]
         | ret=>grind[JB]
         | norm=>
         cases hB:Jd E cf n L cb stA with
         | none=>grind[JB]
         | some rB=>
         obtain⟨oB,stB⟩:=rB;simp only[JB,hel,hA,hB] at R3;unfold rm at hel;split at hel
         .rename_i hz
          have hszr:row.length=szr:=hrow.hsz row (A5 sk);have AVa:sz=szr:=by grind
          subst AVa
          have hVe:V g1 W1 (.Cn row 0) (.pointer (some ⟨bb,off+j*sz+0,none⟩)):=.Cn 0 (ff j) λjj c hjj=>by
           obtain⟨x1,x2⟩:=hrow.hc j row jj c sk hjj;exact⟨ex.mono _ _ x1,by rw[ex.cell _ _ x1]; omega,(hrow.hv j row jj c sk hjj).mono ex.mono ex.cell⟩
          obtain⟨x,hx1,hx2⟩:=Lv (s:=s1) (t:=el) i1' hVe (by assumption);have hps2:ps=#[p,q]:=by grind
          refine⟨bb,off,x,hrow.hbase (λe=>by grind) (by omega),λqq hqq=>by
            obtain⟨cc,s9⟩:∃cc,row[qq]?=some cc:=⟨_,Ak (by omega)⟩;obtain⟨x1,x2⟩:=hrow.hc j row qq cc sk s9;exact⟨_,(ex.cell _ _ x1).trans x2⟩,
           by omega,fn,_,ca,cb,run_yield hl (by grind[M4]),roundIn_of_wpIn Ab ?_⟩
          have Uu:((M4 fn a.tmps ps ca cb w.heap.size).params.zip #[.int .i64 (j:Int),x]).foldl (λ(tmps:Array Value) (t,a)=>tmps.setIfInBounds t a) (M4 fn a.tmps ps ca cb w.heap.size).tmps=(a.tmps.setIfInBounds p (.int .i64 j)).setIfInBounds q x:=by simp[*,M4]
          rw[Uu]
          have AVb:ej E g1 W1 ⟨st.N,ZX (ZX st.ρ p (IE (.int .i64 j))) q v,s1⟩ { tmps:=(a.tmps.setIfInBounds p (.int .i64 j)).setIfInBounds q x,defers:=[] }:=by
           refine⟨i1',by simp[hs.size],λt=>?_⟩;rw[s8 (by rw[hs.size]; omega) (by rw[hs.size]; omega)]
           show V g1 W1 (ZX (ZX st.ρ p (IE (.int .i64 j))) q v t) _
           by_cases h1:t=q
           .simp[*,ZX]
           .rw[if_neg h1]
            have n1:Nat.beq t q=false:=jr h1
            by_cases h2:t=p
            .grind[ZX,Nat.beq_refl,V.IE]
            .rw[if_neg h2]
             have n2:Nat.beq t p=false:=jr h2;simp only[ZX,n1,n2,AH];exact(hs.tmps t).mono ex
          refine IH (w.heap.size+1) ca _ stA .norm (.inl rfl) hna hA g1 W1 _ _ AVb λa' w' g' q1 q2 q3 q4=>?_
          obtain⟨oL',hl'⟩:=oL1.ext q3 (HY hl);obtain⟨oD',hD'⟩:=oD1.ext q3 (HY hD);have hl':=hl'.trans hl;have hD':=hD'.trans hD;refine⟨_,run_beginRound hl' rfl,?_⟩;have hlt:=HY hl';refine IH (w.heap.size+1) cb stA stB oB (.inr rfl) hnb hB g' _ a' _ ⟨q1.inv.L7 oL' _,q1.size,λt=>(q1.tmps t).put oL' _⟩ λa'' w'' g'' r1 r2 r3 r4=>?_
          obtain⟨VE,oO⟩:=oL'.ext r3 (by simp[*]);obtain⟨AI6,AOR⟩:=oD'.ext r3 (by grind[World.putObj_size]);have oO:=oO.trans (World.putObj_heap_same hlt);have AOR:=(AOR.trans (World.putObj_heap_other (by omega))).trans hD';have exA:=((ex.trans q3).L7 (by omega) oL' Ng rD hml (.loop { M4 fn a.tmps ps ca cb w.heap.size with state:=.busy })).trans r3;have exB:=((exk.trans q3).L7 (by omega) oL' AON AOO AOP (.loop { M4 fn a.tmps ps ca cb w.heap.size with state:=.busy })).trans r3;have AOS:=HY oO;cases oB with
          | norm=>
           refine⟨_,_,run_endRound none oO,.inl ⟨rfl,stB.s,g'',R3,?_,?_,VE,AI6,r1.inv.L7 VE _,exA.L7 (by omega) VE Ng rD hml _,exB.L7 (by omega) VE AON AOO AOP _⟩⟩
           .exact World.putObj_heap_same AOS
           grind[World.putObj_heap_other]
          | ret=>
           simp only[Au,A0] at R3;obtain⟨rfl,rfl⟩:=R3;refine⟨_,_,run_endRound (some .ret) oO,.inr ⟨rfl,g'',.ret,?_,?_,VE,AI6,r1.inv.L7 VE _,exA.L7 (by omega) VE Ng rD hml _,.inl ⟨rfl,rfl⟩⟩⟩
           all_goals grind[World.putObj_heap_same,World.putObj_heap_other]
          | exit i=>
           simp only[Au,A0] at R3;obtain⟨rfl,rfl⟩:=R3;refine⟨_,_,run_endRound (some (.exit i)) oO,.inr ⟨rfl,g'',.exit i,?_,?_,VE,AI6,r1.inv.L7 VE _,exA.L7 (by omega) VE Ng rD hml _,.inr ⟨i,rfl,rfl⟩⟩⟩
           all_goals grind[World.putObj_heap_same,World.putObj_heap_other]
         grind
        ·-- the end
         rintro e w' ⟨⟨v,rfl⟩,hj⟩;rcases hj with ⟨s1,g1,R3,hl,hD,oL1,oD1,i1',ex,_⟩|⟨g1,c,hl,hD,oL1,oD1,i1',ex,s9⟩
         .simp only[Jo,Au,A0] at R3
          obtain⟨rfl,rfl⟩:=R3;refine⟨_,_,run_endLoop hl (by simp[M4]),?_⟩
          exact hQ { a with defers:=[Z0 w.heap.size]++a.defers } _ g1 ⟨i1'.L7 oL1 _,hs.size,λt=>((hs.tmps t).mono ex).put oL1 _⟩
           ⟨[w.heap.size],rfl,by simp,λD hD'=>by grind[World.putObj_heap_other]⟩ (ex.L7 (by omega) oL1 Ng rD hml _) rfl
         .refine⟨_,_,run_endLoop hl (by simp),?_⟩
          have fin:=hQ { a with defers:=[Z0 w.heap.size]++a.defers } _ g1 ⟨i1'.L7 oL1 (.loop { M4 fn a.tmps ps ca cb w.heap.size with state:=.exhausted,pending:=some c }),hs.size,λt=>((hs.tmps t).mono ex).put oL1 _⟩
           ⟨[w.heap.size],rfl,by simp,λD hD'=>by grind[World.putObj_heap_other]⟩ (ex.L7 (by omega) oL1 Ng rD hml _) rfl
          rcases s9 with ⟨rfl,rfl⟩|⟨i,rfl,rfl⟩
          .exact wpIn_ret fin
          .exact wpIn_exit fin
     grind
   grind
  grind
 grind
theorem oP {E:Env} {cf:A3->Cp} {L:A3} (Rx:Hg E L (cf L)) (eX:E.P.follows .mixedOrders=true) (ru:∀k t,E.back k=some t->SK E.P k t) :
  ∀(n:Nat) (rd:Option Nat) (c:Code) (st st':St) (o:Out),(rd=none\/KT c=true)->EC L.pl c=true->Jd E cf n L c st=some (o,st') ->
   Sz E L st o st' (λQ=>c.wpIn (FW rd) 0 E.P Q)/\∀b,c=.loop b->Sz E L st o st' (λQ=>L8 rd E.P b Q):=by
 intro n
 induction n with
 | zero=>grind[Jd]
 | succ n ih=>
  intro rd c st st' o hrf Kc h
  have done:∀(o':Out) {W:(Exit->Act->World->Prop)->Act->World->Prop},(∀Q a w,Q o'.s7 a w->W Q a w)->some (o',st)=some (o,st')->Sz E L st o st' W:=by
   intro o' W hW e g w a Q hs hQ
   grind[Marks.refl,Ext.refl]
  cases c with
  | skip=>exact⟨done .norm (λ_ _ _ h=>wpIn_skip h) h,λ_ e=>by grind⟩
  | ret=>exact⟨done .ret (λ_ _ _ h=>wpIn_ret h) h,λ_ e=>by grind⟩
  | exit id=>exact⟨done (.exit id) (λ_ _ _ h=>wpIn_exit h) h,λ_ e=>by grind⟩
  | region id ops draw=>
   refine⟨?_,λ_ e=>by grind⟩;cases draw with
   | false=>
    simp only[Jd] at h;split at h
    .rename_i Fh h1
     simp only[Au,A0] at h;obtain⟨rfl,rfl⟩:=h;intro g w a Q hs hQ;refine wpIn_region ?_;have:=eu (rd:=rd) (Q:=Q) Rx ops.toList.length 0 ops.toList st Fh a w g rfl rfl hs h1 (λa' w' g' q1 q2 q3 q4=>hQ a' w' g' q1 (by grind[Marks.refl]) q3 q4)
     grind[List.range_eq_range']
    grind
   | true=>
    simp only[Jd] at h;simp only[EC,AG] at Kc
    have run:∀(k:Nat) (Fh:St),(match L.pl k with|some p=>Sc ops p|none=>true)=true->Jn E L (cf L) ops st (L.pl k)=some Fh->some (Out.norm,Fh)=some (o,st')->Sz E L st o st' (λQ=>(Code.region id ops true).wpIn (FW rd) 0 E.P Q):=by
     intro k Fh hk h1 e;simp only[Au,A0] at e;obtain⟨rfl,rfl⟩:=e;cases hp:L.pl k with
     | none=>grind[Jn]
     | some p=>
      rw[hp] at h1 hk;simp only[Jn] at h1;simp only at hk;intro g w a Q hs hQ;exact eZ Rx eX hk hs.inv hs.size hs.tmps h1 λa' w' g' q1 q2 q3 q4 q5 q6=>hQ a' w' g' ⟨q4,q1,q5⟩ (by grind[Marks.refl]) q3 q6
    grind[rj]
  | seq x y=>
   refine⟨?_,λ_ e=>by grind⟩;simp only[EC,AG] at Kc;have R3:rd=none\/KT x=true:=hrf.imp (λx=>x) λe=>by grind[KT]
   have P0:rd=none\/KT y=true:=hrf.imp (λx=>x) λe=>by grind[KT]
   simp only[Jd] at h;intro g w a Q hs hQ;refine wpIn_seq ?_;split at h
   .rename_i Fh h1
    refine(ih rd x st Fh .norm R3 Kc.1 h1).1 g w a _ hs λa' w' g' q1 q2 q3 q4=>?_
    exact(ih rd y Fh st' o P0 Kc.2 h).1 g' w' a' _ q1 λa'' w'' g'' r1 r2 r3 r4=>hQ a'' w'' g'' r1 (q2.trans r3 rfl q3.size r2) (q3.trans r3) (r4.trans q4)
   .rename_i hne
    refine(ih rd x st st' o R3 Kc.1 h).1 g w a _ hs λa' w' g' q1 q2 q3 q4=>?_
    have:=hQ a' w' g' q1 q2 q3 q4;cases o with
    | norm=>grind
    | exit id=>exact this
    | ret=>exact this
  | cond c x y=>
   refine⟨?_,λ_ e=>by grind⟩;simp only[EC,AG] at Kc;simp only[Jd] at h;intro g w a Q hs hQ;split at h
   .rename_i t ht
    have hv:=Aa hs.tmps c;rw[ht] at hv;refine wpIn_cond hv.CQ ?_;cases t with
    | true=>exact(ih rd x st st' o (hrf.imp (λx=>x) λe=>by grind[KT]) Kc.1 h).1 g w a _ hs hQ
    | false=>exact(ih rd y st st' o (hrf.imp (λx=>x) λe=>by grind[KT]) Kc.2 h).1 g w a _ hs hQ
   grind
  | block id b=>
   refine⟨?_,λ_ e=>by grind⟩;simp only[EC] at Kc;simp only[Jd] at h;intro g w a Q hs hQ;refine wpIn_block ?_;split at h
   .rename_i j Fh h1
    refine(ih rd b st Fh (.exit j) (hrf.imp (λx=>x) λe=>by assumption) Kc h1).1 g w a _ hs λa' w' g' q1 q2 q3 q4=>?_
    show if j=id then Q .normal a' w' else Q (.exit j) a' w'
    cases hj:Nat.beq j id with
    | true=>
     rw[hj] at h;simp only[AN,Au,A0] at h;obtain⟨rfl,rfl⟩:=h;rw[if_pos (Bx hj)];exact hQ a' w' g' q1 q2 q3 q4
    | false=>
     rw[hj] at h;simp only[AH,Au,A0] at h;obtain⟨rfl,rfl⟩:=h;rw[if_neg (Nat.ne_of_beq_eq_false hj)];exact hQ a' w' g' q1 q2 q3 q4
   .rename_i hne
    refine(ih rd b st st' o (hrf.imp (λx=>x) λe=>by assumption) Kc h).1 g w a _ hs λa' w' g' q1 q2 q3 q4=>?_
    have:=hQ a' w' g' q1 q2 q3 q4;cases o with
    | norm=>exact this
    | exit id=>grind
    | ret=>exact this
  | loop b=>
   have hpb:EC L.pl b=true:=by assumption
   have hrb:rd=none\/KT b=true:=hrf.imp (λx=>x) λe=>by assumption
   have hlw:Sz E L st o st' (λQ=>L8 rd E.P b Q):=by
    simp only[Jd] at h;intro g w a Q hs hQ;refine L8.round ?_;split at h
    .rename_i Fh h1
     refine(ih rd b st Fh .norm hrb hpb h1).1 g w a _ hs λa' w' g' q1 q2 q3 q4=>?_
     exact(ih rd (.loop b) Fh st' o hrf Kc h).2 b rfl g' w' a' _ q1 λa'' w'' g'' r1 r2 r3 r4=>hQ a'' w'' g'' r1 (q2.trans r3 rfl q3.size r2) (q3.trans r3) (r4.trans q4)
    .rename_i hne
     refine(ih rd b st st' o hrb hpb h).1 g w a _ hs λa' w' g' q1 q2 q3 q4=>?_
     have:=hQ a' w' g' q1 q2 q3 q4;cases o with
     | norm=>grind
     | exit id=>exact this
     | ret=>exact this
   exact⟨λg w a Q hs hQ=>(hlw g w a Q hs hQ).wp,λb' e=>by grind⟩
  | rangeFunc go ps ca cb=>
   grind[EC,X9,KT]
  | _=>simp[Jd] at h
def ACk (tmps:Array Value):ResultVar->Sem Value
 | .tmp t=>pure (tmps.getD t undef)
 | .cell x t=>do loadVar t (<-asAddr (tmps.getD x undef))
theorem fF (fn:Func) (tmps:Array Value):results fn tmps=(do let vs <-fn.results.mapM (ACk tmps); pure (if h:vs.size=1 then vs[0] else .tuple vs)):=by
 rfl
theorem fG {E:Env} {g:AE} {w:World} {st:St} {a:Act} (hs:ej E g w st a) {r:ResultVar} {v:AV} (h:Mg E st r=some v) :
  ∃u,(ACk a.tmps r).run E.P w=.ok u w/\V g w v u:=by
 cases r with
 | tmp t=>
  simp[Mg] at h; subst h;exact⟨_,rfl,hs.tmps t⟩
 | cell x t=>
  simp only[Mg] at h;obtain⟨u,h1,h2⟩:=Lv hs.inv (hs.tmps x) h;refine⟨u,?_,h2⟩;simp only[ACk];generalize a.tmps.getD x undef=q at h1 ⊢;simp only[Instr.loadAt] at h1;cases q with
  | pointer p=>
   cases p with
   | none=>simp_all[Instr.sureAddr]
   | some p=>assumption
  | _=>simp_all[Instr.sureAddr]
theorem Qx {E:Env} {g:AE} {w:World} {st:St} {a:Act} (hs:ej E g w st a):∀(rs:List ResultVar) (vs:List AV),Fk E st rs=some vs ->
  ∃us,(rs.mapM (ACk a.tmps)).run E.P w=.ok us w/\VL g w vs us
 | [],vs,h=>by
  simp[Fk] at h; subst h;exact⟨[],by simp,.nil⟩
 | r::rs,vs,h=>by
  simp only[Fk] at h;split at h
  .rename_i v vs' h1 h2
   simp at h; subst h;obtain⟨u,k1,k2⟩:=fG hs h1;obtain⟨us,k3,k4⟩:=Qx hs rs vs' h2;refine⟨u::us,?_,.cons k2 k4⟩;simp[*]
  grind
theorem VF {E:Env} {g:AE} {w:World} {st:St} {a:Act} {fn:Func} {vs:List AV} (hs:ej E g w st a) (h:Fk E st fn.results.toList=some vs) :
  ∃u,(results fn a.tmps).run E.P w=.ok u w/\V g w (KS vs) u:=by
 obtain⟨us,h1,h2⟩:=Qx hs _ _ h
 have hr:(results fn a.tmps).run E.P w=.ok (if h:us.toArray.size=1 then us.toArray[0] else .tuple us.toArray) w:=by
  rw[fF,jV];simp[h1]
 refine⟨_,hr,?_⟩
 match vs,h2 with
 | [],h2=>
  have:=h2.EL
  grind[KS,V.tuple']
 | [v],h2=>
  obtain⟨u,us',rfl,k1,k2⟩:=h2.cases;have:=k2.EL
  grind[KS]
 | v1::v2::vs',h2=>
  have hl:=h2.len;simp only[CT] at hl;rw[dif_neg (by grind)];exact V.tuple' h2
theorem initρ_sound {g:AE} {w:World}:∀(args:List AV) (vs:List Value) (n t:Nat),VL g w args vs->V g w (initρ args t) ((vs++List.replicate n undef)[t]?.getD undef)
 | [],vs,n,t,h=>by
  rw[h.EL];have:((([]:List Value)++List.replicate n undef)[t]?.getD undef)=undef:=by grind
  rw[this];exact V.tuple' .nil
 | x::xs,vs,n,t,h=>by
  obtain⟨u,us,rfl,h1,h2⟩:=h.cases;cases t with
  | zero=>assumption
  | succ t=>simpa[initρ] using initρ_sound xs us n t h2
theorem Oj {P:Program} {fn:Func} {tmps:Array Value} {R:Ending->World->Prop} {g:AE}:∀(Ds:List Nat) (w:World),Ds.Nodup->(∀D∈Ds,w.heap[D]?=some (.deferred (some []))) ->
  (∀w',(∀k,k∉Ds->w'.heap[k]?=w.heap[k]?)->w'=Ds.foldl (λw D=>w.putObj D (.deferred none)) w->LeavesIn (FW none) 0 P fn tmps R [] .returning w')->LeavesInM (FW none) 0 P fn tmps R (Ds.map Z0) .returning w
 | [],w,_,_,h=>h w (λ_ _=>rfl) rfl
 | D::Ds,w,hn,hd,h=>by
  simp only[List.nodup_cons] at hn;refine⟨by simp,.inl ⟨D,_,rfl,run_takeDeferred (hd D (Jh ..)),?_⟩⟩;refine Oj (g:=g) Ds _ hn.2 (λD' hD'=>?_) λw' hw hw'=>?_
  all_goals grind[World.putObj_heap_other]
theorem tA {E:Env} {L:A3} {g g':AE} {w:World} {s:AL} (Ng:∀id k,g.blk id=some k->k<w.heap.size) (rD:∀t l,g.tok t=some l->l.b<w.heap.size) (hml:∀id k,g.mp id=some k->k<w.heap.size) :
  ∀(Ds:List Nat) (w':World),(∀D∈Ds,w.heap.size<=D/\Nf g' D)->Inv E g' w' s->Ext L g w g' w' ->
   Inv E g' (Ds.foldl (λw D=>w.putObj D (.deferred none)) w') s/\Ext L g w g' (Ds.foldl (λw D=>w.putObj D (.deferred none)) w') /\
   ∀x v,V g' w' x v->V g' (Ds.foldl (λw D=>w.putObj D (.deferred none)) w') x v
 | [],_,_,hi,he=>⟨hi,he,λ_ _ h=>h⟩
 | D::Ds,w',hd,hi,he=>by
  obtain⟨a,b⟩:=hd D (Jh ..);obtain⟨r1,r2,r3⟩:=tA Ng rD hml Ds (w'.putObj D (.deferred none)) (λD' h=>hd D' (Eg _ h)) (hi.L7 b _) (he.L7 a b Ng rD hml _);exact⟨r1,r2,λx v h=>r3 x v (h.put b _)⟩
theorem Jz {E:Env} {cf:A3->Cp} {n:Nat} {L:A3} {f:FuncId} {fn:Func} {args:List AV} {s s':AL} {v:AV} {g:AE} {w:World} {vs:List Value} {body:Code} (Rx:Hg E L (cf L)) (eX:E.P.follows .mixedOrders=true) (ru:∀k t,E.back k=some t->SK E.P k t)
  (hfn:E.P.funcs[f]?=some fn) (hbody:fn.body=some body) (Kc:EC L.pl body=true) (hN:args.length<=fn.ntmps)
  (hI:Inv E g w s) (hargs:VL g w args vs) (h:JC E cf n fn L args s=some (v,s')) :
  Calls E.P f vs.toArray w λe w'=>∃v' g',e=.returned v'/\V g' w' v v'/\Ext L g w g' w'/\Inv E g' w' s':=by
 unfold JC at h;rw[hbody] at h;simp only at h;refine(callsIn_wide (n:=0)).1 (callsIn_of_wp_marks (F:=FW none) hfn hbody Ab ?_ rfl)
 have hs:ej E g w ⟨fn.ntmps,initρ args,s⟩ { tmps:=vs.toArray++Array.replicate (fn.ntmps-vs.toArray.size) undef,defers:=[] }:=by
  refine⟨hI,?_,λt=>?_⟩
  .have:=hargs.len
   grind
  .have:=initρ_sound args vs (fn.ntmps-vs.length) t hargs
   simp_all[Array.getElem?_append,List.getElem?_append,Array.getElem?_replicate,List.getElem?_replicate]
 split at h
 .grind
 .rename_i o st hne hev
  split at h
  .rename_i rs hrs
   simp only[Au,A0] at h;obtain⟨rfl,rfl⟩:=h;refine(oP Rx eX ru n none body _ _ _ (.inl rfl) Kc hev).1 g w _ _ hs λa' w' g' q1 q2 q3 q4=>?_
   have fin:LeavesInM (FW none) 0 E.P fn a'.tmps (λe w'=>∃v' g',e=.returned v'/\V g' w' (KS rs) v'/\Ext L g w g' w'/\Inv E g' w' st.s) a'.defers .returning w':=by
    obtain⟨Ds,d1,d2,d3⟩:=q2;simp only[Gb] at d1;rw[d1];refine Oj (g:=g') Ds w' d2 (λD hD=>(d3 D hD).2.1) λw'' _ hw''=>?_
    obtain⟨r1,r2,r3⟩:=tA (E:=E) (L:=L) (g:=g) (g':=g') (w:=w) (s:=st.s) (λid k hk=>hI.Dm hk) (λt l hl=>hI.Ff hl) (λid k hk=>hI.JG hk) Ds w' (λD hD=>⟨(d3 D hD).1,(d3 D hD).2.2⟩) q1.inv q3;rw[<-hw''] at r1 r2 r3;have q1':ej E g' w'' st a':=⟨r1,q1.size,λt=>r3 _ _ (q1.tmps t)⟩;obtain⟨u,x1,x2⟩:=VF q1' hrs;exact⟨u,x1,u,g',rfl,x2,r2,r1⟩
   cases o with
   | norm=>exact fin
   | exit id=>grind
   | ret=>exact fin
  grind
 grind
theorem Ext.A4 {L L':A3} {g g':AE} {w w':World} (h:Ext L g w g' w') (h1:L'.ro=L.ro) (h2:L'.rt=L.rt):Ext L' g w g' w':=
 {os:=h.os,tape:=h.tape,output:=h.output,size:=h.size,mono:=h.mono,cell:=h.cell,blk:=h.blk,dead:=h.dead,shape:=h.shape,tok:=h.tok,out:=h.out,GV:=h.GV,JF:=h.JF,C4:=h.C4,mp:=h.mp,JE:=h.JE
  E1:=λid b hb=>⟨λhlt=>(h.E1 id b hb).1 (by omega),(h.E1 id b hb).2⟩
  FE:=λid b hb hlt=>h.FE id b hb (by omega)
  Ez:=λt l hl hlt=>h.Ez t l hl (by omega) }
def Pu (E:Env) (f:FuncId) (T:A3->List AV->AL->Option (AV×AL)):Prop:=
 ∀(L:A3) (args:List AV) (s s':AL) (v:AV) (g:AE) (w:World) (vs:List Value),T L args s=some (v,s')->Inv E g w s->VL g w args vs ->
  (∃fn,E.P.funcs[f]?=some fn/\fn.body.isSome=true/\(fn.name== "runtime.NumGoroutine")=false) /\
  Calls E.P f vs.toArray w λe w'=>∃v' g',e=.returned v'/\V g' w' v v'/\Ext L g w g' w'/\Inv E g' w' s'
structure Good (E:Env):Prop where
 mix:E.P.follows .mixedOrders=true
 plans:∀(f:FuncId) (fn:Func) (body:Code),E.P.funcs[f]?=some fn->fn.body=some body->EC (E.plan f) body=true
 names:∀(f:FuncId) (fn:Func),E.P.funcs[f]?=some fn->fn.body.isSome=true->(fn.name== "runtime.NumGoroutine")=false
 jn:∀f T,E.told f=some T->Pu E f T
 Sv:∀k t,E.back k=some t->SK E.P k t
 X5:∀f,E.clone f=true->E.told f=none->(∃fn,E.P.funcs[f]?=some fn/\fn.body.isSome=true) /\
  ∀(w:World) (base:Option Addr) (cap:Nat),Calls E.P f #[.slice base 0 cap] w λe w'=>∃b',e=.returned (.slice b' 0 0)/\(w'=w\/∃o,w'=G1 w o)
theorem YB {E:Env} {cf:A3->Cp} {n:Nat} {L:A3} {f:FuncId} {fn:Func} {args:List AV} {s s':AL} {v:AV} {g:AE} {w:World} {vs:List Value} {body:Code} (hG:Good E) (Rx:∀L,Hg E L (cf L))
  (hfn:E.P.funcs[f]?=some fn) (hbody:fn.body=some body) (hI:Inv E g w s) (hargs:VL g w args vs) (h:D5 E cf n L f fn args s=some (v,s')) :
  Calls E.P f vs.toArray w λe w'=>∃v' g',e=.returned v'/\V g' w' v v'/\Ext L g w g' w'/\Inv E g' w' s':=by
 have Kc:=hG.plans f fn body hfn hbody;unfold D5 at h;split at h
 .rename_i hN
  have pure:∀args',AX [] 0 0 args=some args'->IW E cf n f fn args' s=some (v,s')->Calls E.P f vs.toArray w λe w'=>∃v' g',e=.returned v'/\V g' w' v v'/\Ext L g w g' w'/\Inv E g' w' s':=by
   intro args' Bi h;have X2:VL (AE.bare g.I) w args' vs:=GC Ob.nil Gt.bare _ _ _ Bi hargs;have hN':args'.length<=fn.ntmps:=by rw[X2.len,<-hargs.len]; omega
   unfold IW at h;split at h
   .rename_i x s1 hb
    split at h
    .rename_i y hy
     simp only[Au,A0] at h;obtain⟨rfl,rfl⟩:=h;refine(Jz (Rx _) hG.mix hG.Sv hfn hbody Kc hN' hI.bare X2 hb).mono ?_;rintro e w' ⟨v',g',rfl,hv,hx,hi⟩;obtain⟨r1,r2,r3,r4⟩:=su (L:=L) hI hx hi
     grind[H9]
    grind
   grind
  have write:∀L',L'.ro=L.ro->L'.rt=L.rt->L'.pl=E.plan f->(match JC E cf n fn L' args s with|some (v,s')=>HR (L.rr f) s.bs.length v s' | none=>none)=some (v,s') ->
    Calls E.P f vs.toArray w λe w'=>∃v' g',e=.returned v'/\V g' w' v v'/\Ext L g w g' w'/\Inv E g' w' s':=by
   intro L' e1 e2 e3 h;split at h
   .rename_i x s1 hb
    refine(Jz (Rx _) hG.mix hG.Sv hfn hbody (by grind) hN hI hargs hb).mono ?_
    grind[Zv]
   grind
  generalize E.kind f=k at h;cases k with
  | esc=>
   refine(Jz (Rx _) hG.mix hG.Sv hfn hbody Kc hN hI hargs h).mono ?_;rintro e w' ⟨v',g',rfl,hv,hx,hi⟩;exact⟨v',g',rfl,hv,hx.A4 rfl rfl,hi⟩
  | rd=>
   simp only at h;split at h
   .grind
   .split at h
    .rename_i x s1 hb
     split at h
     .rename_i y hy
      simp only[Au,A0] at h;obtain⟨rfl,rfl⟩:=h;refine(Jz (Rx _) hG.mix hG.Sv hfn hbody Kc hN hI hargs hb).mono ?_;rintro e w' ⟨v',g',rfl,hv,hx,hi⟩;obtain⟨r1,r2,r3,r4⟩:=AIx (L:=L) hI rfl rfl hx hi
      grind[H9]
     grind
    grind
  | im=>
   grind[Gu]
  | st=>grind
 grind
theorem tB {E:Env} (hG:Good E) {n:Nat} {cf:A3->Cp} (Rx:∀L,Hg E L (cf L)) (L:A3) :
  Hg E L (λf args s=>match E.P.funcs[f]? with
   | some fn=>bif E.clone f then OU E L f args s (D5 E cf n L f fn args s) else D5 E cf n L f fn args s
   | none=>none):=by
  intro f args s s' v g w vs h hI hargs;simp only at h;split at h
  .rename_i fn hfn
   have enter:D5 E cf n L f fn args s=some (v,s')->(∃fn,E.P.funcs[f]?=some fn/\fn.body.isSome=true/\(fn.name== "runtime.NumGoroutine")=false) /\
     Calls E.P f vs.toArray w λe w'=>∃v' g',e=.returned v'/\V g' w' v v'/\Ext L g w g' w'/\Inv E g' w' s':=by
    intro h;cases hb:fn.body with
    | none=>
     grind[D5,JC,IW]
    | some body=>
     refine⟨⟨fn,hfn,by grind,hG.names f fn hfn (by grind)⟩,?_⟩
     grind[YB]
   cases Bi:E.clone f with
   | true=>
    rw[Bi] at h;simp only[AN,OU] at h;cases ht:E.told f with
    | some T=>
     rw[ht] at h;exact hG.jn f T ht L args s s' v g w vs h hI hargs
    | none=>
     rw[ht] at h;simp only at h;cases he:JD args with
     | false=>grind
     | true=>
      rw[he] at h;simp only[AN,Au,A0] at h;obtain⟨rfl,rfl⟩:=h;obtain⟨⟨fn',k1,k2⟩,k3⟩:=hG.X5 f Bi ht;refine⟨⟨fn',k1,k2,hG.names f fn' k1 k2⟩,?_⟩;unfold JD at he;split at he
      .rename_i x
       obtain⟨u,us,rfl,h1,h2⟩:=hargs.cases;have:=h2.EL;subst this;split at he
       .rename_i hr
        obtain⟨base,cap,b,o,sz,q,rfl,_,_⟩:=Dy h1 hr;refine(k3 w base cap).mono ?_;rintro e w' ⟨b',rfl,hw⟩;have hv:∀g w',V g w' (.AA []) (.slice b' 0 0):=λg w'=>V.AA (rows:=[]) (b:=0) (o:=0) (sz:=0) (f:=λ_ _=>undef) D6.nil
        rcases hw with rfl|⟨ob,rfl⟩
        .grind[Ext.refl]
        .obtain⟨r1,r2⟩:=Inv.Zc (L:=L) hI ob
         grind
       grind
      grind
   | false=>
    grind
  grind
theorem Qy {E:Env} (hG:Good E):∀(n:Nat) (L:A3),Hg E L (Dl E n L)
 | 0,L=>by intro f args s s' v g w vs h; grind[Dl]
 | n+1,L=>λf args s s' v g w vs h hI hargs=>tB hG (n:=n) (Qy hG n) L f args s s' v g w vs (by assumption) hI hargs
end Go.Tel
