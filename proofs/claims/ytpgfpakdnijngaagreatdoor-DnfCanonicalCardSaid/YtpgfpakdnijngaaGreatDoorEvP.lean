/-
  Code: each piece that the evaluator answers is walked as it says.
-/
import Derived.Test.YtpgfpakdnijngaaGreatDoorEvO
set_option linter.all false
namespace Go.Tel
def L4 (rd:Option Nat) (P:Program) (c:Code) (Q:Exit->Act->World->Prop) (a:Act) (w:World):Prop:=
 ∀(b:Frame) (k:List Item) (cs:List Frame),b.roundOf=(FW rd).round->(FW rd).fn b.fn->(FW rd).room (cs.length+1+0) ->
  ∃e a' w',Q e a' w'/\ArrivesIn (Machine.fenced P (FW rd)) P (lone (b.atR a (.code c::.inLoop c::k)) cs w) b k cs e a' w'
theorem L4.wp {rd:Option Nat} {P:Program} {c:Code} {Q:Exit->Act->World->Prop} {a:Act} {w:World} (h:L4 rd P c Q a w):(Code.loop c).wpIn (FW rd) 0 P Q a w:=by
 intro b k cs hro hb hr;obtain⟨e,a',w',hq,Zy⟩:=h b k cs hro hb hr;exact⟨e,a',w',hq,.of_steps (.one (fenced_calm hb hr rfl) stepR_loop) Zy⟩
theorem L4.round {rd:Option Nat} {P:Program} {c:Code} {Q:Exit->Act->World->Prop} {a:Act} {w:World} (h:c.wpIn (FW rd) 0 P (Exit.then (L4 rd P c Q) Q) a w):L4 rd P c Q a w:=by
 intro b k cs hro hb hr;obtain⟨e,a₁,w₁,hq,Zy⟩:=h b (.inLoop c::k) cs hro hb hr;cases e with
 | normal=>
  obtain⟨e₂,a₂,w₂,hq₂,AMv⟩:=hq b k cs hro hb hr;exact⟨e₂,a₂,w₂,hq₂,.of_steps (StepsIn.trans Zy (.one (fenced_calm hb hr rfl) stepR_inLoop)) AMv⟩
 | exit id=>exact⟨_,a₁,w₁,hq,.pass (x:=.inLoop c) rfl (λ_ _=>.inl (by simp)) Zy⟩
 | goto l=>exact⟨_,a₁,w₁,hq,.pass (x:=.inLoop c) rfl (λ_ _=>.inl (by simp)) Zy⟩
 | ret=>exact⟨_,a₁,w₁,hq,.pass (x:=.inLoop c) rfl (λ_ _=>.inl (by simp)) Zy⟩
 | panic ch=>exact⟨_,a₁,w₁,hq,.pass (x:=.inLoop c) rfl (λ_ _=>.inl (by simp)) Zy⟩
 | outgrown=>exact⟨_,a₁,w₁,hq,.pass (x:=.inLoop c) rfl (λ_ _=>.inl (by simp)) Zy⟩
def Out.tL:Out->Exit
 | .norm=>.normal
 | .exit id=>.exit id
 | .ret=>.ret
def Sv (E:Env) (L:A3) (st:St) (o:Out) (st':St) (W:(Exit->Act->World->Prop)->Act->World->Prop):Prop:=
 ∀(g:AI) (w:World) (a:Act) (Q:Exit->Act->World->Prop),fA E g w st a ->
  (∀a' w' g',fA E g' w' st' a'->Marks w.heap.size a.defers g' w' a'.defers->Ext L g w g' w'->st'.N=st.N->Q o.tL a' w')->W Q a w
def M0 (fn:FuncId) (tmps:Array Value) (ps:Array Tmp) (ca cb:Code) (D:Nat):Loop:={ state:=.ready,pending:=none,fn,tmps,params:=ps,assign:=ca,body:=cb,defers:=D }
theorem tM {tmps:Array Value} {p q t:Nat} {u x:Value} (hp:p<tmps.size) (hq:q<tmps.size) :
  ((tmps.setIfInBounds p u).setIfInBounds q x).getD t undef=if t=q then x else if t=p then u else tmps.getD t undef:=by
 simp only[Array.getD_eq_getD_getElem?,Array.getElem?_setIfInBounds,Array.size_setIfInBounds]
 grind
set_option maxHeartbeats 1000000 in
theorem X6 {E:Env} {cf:A3->Cn} {L:A3} {n:Nat} {g:Operand} {ps:Array Tmp} {ca cb:Code} {st st':St} {o:Out} (sN:∀k t,E.back k=some t->SD E.P k t)
  (IH:∀(l:Nat) (c:Code) (st st':St) (o:Out),(c=ca\/c=cb)->Ij c=true->IL E cf n L c st=some (o,st')->Sv E L st o st' (λQ=>c.wpIn (FW (some l)) 0 E.P Q))
  (h:IL E cf (n+1) L (.rangeFunc g ps ca cb) st=some (o,st')):Sv E L st o st' (λQ=>(Code.rangeFunc g ps ca cb).wpIn (FW none) 0 E.P Q):=by
 simp only[IL] at h;split at h
 .rename_i k id p q hg hps
  split at h
  .rename_i el c AYe ADl Vg
   split at h
   .rename_i rows hrows
    cases hc:(Nat.ble L.ro id&&(Ij ca&&(Ij cb&&(Nat.blt p st.N&&(Nat.blt q st.N&&(!Nat.beq p q&&(Nat.ble rows.length 1000000000000000000&&(DZ E.P el).isSome))))))) with
    | false=>grind
    | true=>
     rw[hc] at h;simp only[AH] at h;simp only[AD] at hc;obtain⟨hro,hna,hnb,hp,hq,hpq,hlen,hsz⟩:=hc;have hro:=Cr hro;have hp:p<st.N:=by simp_all
     have hq:q<st.N:=by simp_all
     have hlen:=Cr hlen;obtain⟨sz,hsz⟩:=MX.1 hsz;split at h
     .rename_i o1 s' hr
      simp only[Aw,A4] at h;obtain⟨rfl,rfl⟩:=h;intro gh w a Q hs hQ;have hv:=Ae hs.tmps g;rw[hg] at hv;obtain⟨vs,us,hval,h1,h2⟩:=hv.SZ;have:=h1.E4;subst this;obtain⟨u,us',rfl,hu,hn⟩:=h2.cases;have:=hn.E4;subst this;cases hu with
      | KM hd=>
       have:=hs.inv.DW id hd
       grind
      | @ptr _ _ b hb=>
       obtain⟨cs,vs,e,k1,k2,kle,k3⟩:=hs.inv.blk id b hb;rw[Vg] at k1;simp only[Aw] at k1;subst k1;cases vs with
       | nil=>grind
       | cons v0 vs=>
       obtain⟨base,cap,bb,off,szr,ff,rfl,hcap,hrow⟩:=Dp k3.head hrows;have hcell:w.cell? ⟨b,0,none⟩=some (.slice base rows.length cap):=by grind[World.cell?]
       have AMw:=hs.inv.Dt hb;obtain⟨ek,ik⟩:=hs.inv.kill (L:=L) hb hro
       have ob:Ni (gh.kill id) b:=by
        refine⟨λid' hb'=>?_,λt l hl=>FL (hs.inv.C6 id b t l hb hl),λid' hb'=>hs.inv.mpB hb' hb,λi=>hs.inv.Fb id b i hb⟩;simp only[AI.kill] at hb';split at hb'
        .grind
        .rename_i hne
         exact hne (hs.inv.Ee id' id b hb' hb)
       obtain⟨e1,i1,oD⟩:=ik.ADk (L:=L) (.deferred (some []));refine wpIn_rangeFunc λfn hfn=>?_
       obtain⟨e2,i2,oL⟩:=i1.ADk (L:=L) (.loop (M0 fn a.tmps ps ca cb w.heap.size));rw[World.size_alloc] at oL;have hD1:(w.alloc (.deferred (some []))).heap[w.heap.size]?=some (.deferred (some [])):=World.alloc_heap_new _ _;obtain⟨oD2,hD2⟩:=oD.ext e2 (by simp);have hL2:((w.alloc (.deferred (some []))).alloc (.loop (M0 fn a.tmps ps ca cb w.heap.size))).heap[w.heap.size+1]?=some (.loop (M0 fn a.tmps ps ca cb w.heap.size)):=by grind[World.alloc_heap_new,World.size_alloc]
       have M9:=(ob.ext (e1.trans e2) AMw).2;obtain⟨fnk,VR,hk2,Ml⟩:=(sN k el ADl).body;have hne:¬ fnk.body=none:=λe=>by grind
       refine⟨w.heap.size+1,[Zx w.heap.size],(w.alloc (.deferred (some []))).alloc (.loop (M0 fn a.tmps ps ca cb w.heap.size)),({ target:=.fn (.func k) #[.pointer (some ⟨b,0,none⟩)],args:=#[.func (.yield (w.heap.size+1)) #[] #[]] }:Deferred),
        (w.alloc (.deferred (some []))).alloc (.loop (M0 fn a.tmps ps ca cb w.heap.size)),k,#[.func (.yield (w.heap.size+1)) #[] #[],.pointer (some ⟨b,0,none⟩)],(w.alloc (.deferred (some []))).alloc (.loop (M0 fn a.tmps ps ca cb w.heap.size)),
        run_enterLoop_outer fn a.tmps ps ca cb,?_,λ_ _=>trivial,?_,λ(e:(FW none).depth.isSome=true)=>by grind[FW,Fence.wide],?_⟩
       .simp[resolve,rangeCall,hval,Deferred.ofValue]
        rfl
       .simp_all[invoke,callFunc]
       .have Oa:∀id k,gh.blk id=some k->k<w.heap.size:=λid k hk=>hs.inv.Dt hk
        have tJ:∀t l,gh.tok t=some l->l.b<w.heap.size:=λt l hl=>hs.inv.Fc hl
        have hml:∀id k,gh.mp id=some k->k<w.heap.size:=λid k hk=>hs.inv.K0 hk
        have AMx:∀i k,(gh.kill id).blk i=some k->k<w.heap.size:=λi k hk=>ik.Dt hk
        have AMy:∀t l,(gh.kill id).tok t=some l->l.b<w.heap.size:=λt l hl=>ik.Fc hl
        have AMz:∀i k,(gh.kill id).mp i=some k->k<w.heap.size:=λi k hk=>ik.K0 hk
        refine CallsIn.mono ((sN k el ADl).run sz hsz (w.heap.size+1) b rows.length cap base _
         (λj W1=>∃s1 g1,FP (FZ E.P (IL E cf n L) ca cb st p q el) rows j s1=some (o1,s')/\W1.heap[w.heap.size+1]?=some (.loop (M0 fn a.tmps ps ca cb w.heap.size))/\W1.heap[w.heap.size]?=some (.deferred (some [])) /\
          Ni g1 (w.heap.size+1)/\Ni g1 w.heap.size/\Inv E g1 W1 s1/\Ext L gh w g1 W1/\Ext L (gh.kill id) w g1 W1)
         (λW1=>∃g1 c,W1.heap[w.heap.size+1]?=some (.loop { M0 fn a.tmps ps ca cb w.heap.size with state:=.done,pending:=some c })/\W1.heap[w.heap.size]?=some (.deferred (some [])) /\
          Ni g1 (w.heap.size+1)/\Ni g1 w.heap.size/\Inv E g1 W1 s'/\Ext L gh w g1 W1/\((o1=.ret/\c=.ret)\/∃i,o1=.exit i/\c=.exit i))
         hlen ((B8 M9 0).trans hcell) ?_ ⟨_,_,hr,hL2,hD2.trans hD1,oL,oD2,i2,(ek.trans e1).trans e2,e1.trans e2⟩) ?_
        ·-- a round
         rintro j W1 hj ⟨s1,g1,NG,hl,hD,oL1,oD1,i1',ex,exk⟩;refine⟨(B8 (ob.ext exk AMw).2 0).trans hcell,?_⟩;obtain⟨row,tE⟩:∃row,rows[j]?=some row:=⟨_,Ap hj⟩;simp only[FP,tE] at NG;cases hel:Zd E.P el row with
         | none=>grind[FZ]
         | some v=>
         cases hA:IL E cf n L ca ⟨st.N,Xa (Xa st.ρ p (Iz (.int .i64 j))) q v,s1⟩ with
         | none=>grind[FZ]
         | some rA=>
         obtain⟨oA,stA⟩:=rA;cases oA with
         | exit i=>grind[FZ]
         | ret=>grind[FZ]
         | norm=>
         cases hB:IL E cf n L cb stA with
         | none=>grind[FZ]
         | some rB=>
         obtain⟨oB,stB⟩:=rB;simp only[FZ,hel,hA,hB] at NG;unfold Zd at hel;split at hel
         .rename_i hz
          have hszr:row.length=szr:=hrow.hsz row (BA tE);have AUC:sz=szr:=by grind
          subst AUC
          have hVe:V g1 W1 (.C8 row 0) (.pointer (some ⟨bb,off+j*sz+0,none⟩)):=.C8 0 (ff j) λjj c hjj=>by
           obtain⟨x1,x2⟩:=hrow.hc j row jj c tE hjj;exact⟨ex.mono _ _ x1,by rw[ex.cell _ _ x1]; omega,(hrow.hv j row jj c tE hjj).mono ex.mono ex.cell⟩
          obtain⟨x,hx1,hx2⟩:=Ls (s:=s1) (t:=el) i1' hVe (by assumption);have hps2:ps=#[p,q]:=by grind
          refine⟨bb,off,x,hrow.hbase (λe=>by grind) (by omega),λqq hqq=>by
            obtain⟨cc,tN⟩:∃cc,row[qq]?=some cc:=⟨_,Ap (by omega)⟩;obtain⟨x1,x2⟩:=hrow.hc j row qq cc tE tN;exact⟨_,(ex.cell _ _ x1).trans x2⟩,
           by omega,fn,_,ca,cb,run_yield hl (by grind[M0]),roundIn_of_wpIn AZ ?_⟩
          have Zz:((M0 fn a.tmps ps ca cb w.heap.size).params.zip #[.int .i64 (j:Int),x]).foldl (λ(tmps:Array Value) (t,a)=>tmps.setIfInBounds t a) (M0 fn a.tmps ps ca cb w.heap.size).tmps=(a.tmps.setIfInBounds p (.int .i64 j)).setIfInBounds q x:=by simp[*,M0]
          rw[Zz]
          have AUD:fA E g1 W1 ⟨st.N,Xa (Xa st.ρ p (Iz (.int .i64 j))) q v,s1⟩ { tmps:=(a.tmps.setIfInBounds p (.int .i64 j)).setIfInBounds q x,defers:=[] }:=by
           refine⟨i1',by simp[hs.size],λt=>?_⟩;rw[tM (by rw[hs.size]; omega) (by rw[hs.size]; omega)]
           show V g1 W1 (Xa (Xa st.ρ p (Iz (.int .i64 j))) q v t) _
           by_cases h1:t=q
           .simp[*,Xa]
           .rw[if_neg h1]
            have n1:Nat.beq t q=false:=jl h1
            by_cases h2:t=p
            .grind[Xa,Nat.beq_refl,V.Iz]
            .rw[if_neg h2]
             have n2:Nat.beq t p=false:=jl h2;simp only[Xa,n1,n2,AE];exact(hs.tmps t).mono ex
          refine IH (w.heap.size+1) ca _ stA .norm (.inl rfl) hna hA g1 W1 _ _ AUD λa' w' g' q1 q2 q3 q4=>?_
          obtain⟨oL',hl'⟩:=oL1.ext q3 (HU hl);obtain⟨oD',hD'⟩:=oD1.ext q3 (HU hD);have hl':=hl'.trans hl;have hD':=hD'.trans hD;refine⟨_,run_beginRound hl' rfl,?_⟩;have hlt:=HU hl';refine IH (w.heap.size+1) cb stA stB oB (.inr rfl) hnb hB g' _ a' _ ⟨q1.inv.L3 oL' _,q1.size,λt=>(q1.tmps t).put oL' _⟩ λa'' w'' g'' r1 r2 r3 r4=>?_
          obtain⟨U0,oH⟩:=oL'.ext r3 (by simp[*]);obtain⟨AHw,AM1⟩:=oD'.ext r3 (by grind[World.putObj_size]);have oH:=oH.trans (World.putObj_heap_same hlt);have AM1:=(AM1.trans (World.putObj_heap_other (by omega))).trans hD';have exA:=((ex.trans q3).L3 (by omega) oL' Oa tJ hml (.loop { M0 fn a.tmps ps ca cb w.heap.size with state:=.busy })).trans r3;have Hr:=((exk.trans q3).L3 (by omega) oL' AMx AMy AMz (.loop { M0 fn a.tmps ps ca cb w.heap.size with state:=.busy })).trans r3;have AM2:=HU oH;cases oB with
          | norm=>
           refine⟨_,_,run_endRound none oH,.inl ⟨rfl,stB.s,g'',NG,?_,?_,U0,AHw,r1.inv.L3 U0 _,exA.L3 (by omega) U0 Oa tJ hml _,Hr.L3 (by omega) U0 AMx AMy AMz _⟩⟩
           .exact World.putObj_heap_same AM2
           grind[World.putObj_heap_other]
          | ret=>
           simp only[Aw,A4] at NG;obtain⟨rfl,rfl⟩:=NG;refine⟨_,_,run_endRound (some .ret) oH,.inr ⟨rfl,g'',.ret,?_,?_,U0,AHw,r1.inv.L3 U0 _,exA.L3 (by omega) U0 Oa tJ hml _,.inl ⟨rfl,rfl⟩⟩⟩
           all_goals grind[World.putObj_heap_same,World.putObj_heap_other]
          | exit i=>
           simp only[Aw,A4] at NG;obtain⟨rfl,rfl⟩:=NG;refine⟨_,_,run_endRound (some (.exit i)) oH,.inr ⟨rfl,g'',.exit i,?_,?_,U0,AHw,r1.inv.L3 U0 _,exA.L3 (by omega) U0 Oa tJ hml _,.inr ⟨i,rfl,rfl⟩⟩⟩
           all_goals grind[World.putObj_heap_same,World.putObj_heap_other]
         grind
        ·-- the end
         rintro e w' ⟨⟨v,rfl⟩,hj⟩;rcases hj with ⟨s1,g1,NG,hl,hD,oL1,oD1,i1',ex,_⟩|⟨g1,c,hl,hD,oL1,oD1,i1',ex,tN⟩
         .simp only[FP,Aw,A4] at NG
          obtain⟨rfl,rfl⟩:=NG;refine⟨_,_,run_endLoop hl (by simp[M0]),?_⟩
          exact hQ { a with defers:=[Zx w.heap.size]++a.defers } _ g1 ⟨i1'.L3 oL1 _,hs.size,λt=>((hs.tmps t).mono ex).put oL1 _⟩
           ⟨[w.heap.size],rfl,by simp,λD hD'=>by grind[World.putObj_heap_other]⟩ (ex.L3 (by omega) oL1 Oa tJ hml _) rfl
         .refine⟨_,_,run_endLoop hl (by simp),?_⟩
          have fin:=hQ { a with defers:=[Zx w.heap.size]++a.defers } _ g1 ⟨i1'.L3 oL1 (.loop { M0 fn a.tmps ps ca cb w.heap.size with state:=.exhausted,pending:=some c }),hs.size,λt=>((hs.tmps t).mono ex).put oL1 _⟩
           ⟨[w.heap.size],rfl,by simp,λD hD'=>by grind[World.putObj_heap_other]⟩ (ex.L3 (by omega) oL1 Oa tJ hml _) rfl
          rcases tN with ⟨rfl,rfl⟩|⟨i,rfl,rfl⟩
          .exact wpIn_ret fin
          .exact wpIn_exit fin
     grind
   grind
  grind
 grind
theorem oJ {E:Env} {cf:A3->Cn} {L:A3} (Rs:HX E L (cf L)) (ee:E.P.follows .mixedOrders=true) (sN:∀k t,E.back k=some t->SD E.P k t) :
  ∀(n:Nat) (rd:Option Nat) (c:Code) (st st':St) (o:Out),(rd=none\/Ij c=true)->Dy L.pl c=true->IL E cf n L c st=some (o,st') ->
   Sv E L st o st' (λQ=>c.wpIn (FW rd) 0 E.P Q)/\∀b,c=.loop b->Sv E L st o st' (λQ=>L4 rd E.P b Q):=by
 intro n
 induction n with
 | zero=>grind[IL]
 | succ n ih=>
  intro rd c st st' o hrf Li h
  have done:∀(o':Out) {W:(Exit->Act->World->Prop)->Act->World->Prop},(∀Q a w,Q o'.tL a w->W Q a w)->some (o',st)=some (o,st')->Sv E L st o st' W:=by
   intro o' W hW e g w a Q hs hQ
   grind[Marks.refl,Ext.refl]
  cases c with
  | skip=>exact⟨done .norm (λ_ _ _ h=>wpIn_skip h) h,λ_ e=>by grind⟩
  | ret=>exact⟨done .ret (λ_ _ _ h=>wpIn_ret h) h,λ_ e=>by grind⟩
  | exit id=>exact⟨done (.exit id) (λ_ _ _ h=>wpIn_exit h) h,λ_ e=>by grind⟩
  | region id ops draw=>
   refine⟨?_,λ_ e=>by grind⟩;cases draw with
   | false=>
    simp only[IL] at h;split at h
    .rename_i FU h1
     simp only[Aw,A4] at h;obtain⟨rfl,rfl⟩:=h;intro g w a Q hs hQ;refine wpIn_region ?_;have:=fB (rd:=rd) (Q:=Q) Rs ops.toList.length 0 ops.toList st FU a w g rfl rfl hs h1 (λa' w' g' q1 q2 q3 q4=>hQ a' w' g' q1 (by grind[Marks.refl]) q3 q4)
     grind[List.range_eq_range']
    grind
   | true=>
    simp only[IL] at h;simp only[Dy,AD] at Li
    have run:∀(k:Nat) (FU:St),(match L.pl k with|some p=>SW ops p|none=>true)=true->Jh E L (cf L) ops st (L.pl k)=some FU->some (Out.norm,FU)=some (o,st')->Sv E L st o st' (λQ=>(Code.region id ops true).wpIn (FW rd) 0 E.P Q):=by
     intro k FU hk h1 e;simp only[Aw,A4] at e;obtain⟨rfl,rfl⟩:=e;cases hp:L.pl k with
     | none=>grind[Jh]
     | some p=>
      rw[hp] at h1 hk;simp only[Jh] at h1;simp only at hk;intro g w a Q hs hQ;exact eu Rs ee hk hs.inv hs.size hs.tmps h1 λa' w' g' q1 q2 q3 q4 q5 q6=>hQ a' w' g' ⟨q4,q1,q5⟩ (by grind[Marks.refl]) q3 q6
    grind[sJ]
  | seq x y=>
   refine⟨?_,λ_ e=>by grind⟩;simp only[Dy,AD] at Li;have NG:rd=none\/Ij x=true:=hrf.imp (λx=>x) λe=>by grind[Ij]
   have Pt:rd=none\/Ij y=true:=hrf.imp (λx=>x) λe=>by grind[Ij]
   simp only[IL] at h;intro g w a Q hs hQ;refine wpIn_seq ?_;split at h
   .rename_i FU h1
    refine(ih rd x st FU .norm NG Li.1 h1).1 g w a _ hs λa' w' g' q1 q2 q3 q4=>?_
    exact(ih rd y FU st' o Pt Li.2 h).1 g' w' a' _ q1 λa'' w'' g'' r1 r2 r3 r4=>hQ a'' w'' g'' r1 (q2.trans r3 rfl q3.size r2) (q3.trans r3) (r4.trans q4)
   .rename_i hne
    refine(ih rd x st st' o NG Li.1 h).1 g w a _ hs λa' w' g' q1 q2 q3 q4=>?_
    have:=hQ a' w' g' q1 q2 q3 q4;cases o with
    | norm=>grind
    | exit id=>exact this
    | ret=>exact this
  | cond c x y=>
   refine⟨?_,λ_ e=>by grind⟩;simp only[Dy,AD] at Li;simp only[IL] at h;intro g w a Q hs hQ;split at h
   .rename_i t ht
    have hv:=Ae hs.tmps c;rw[ht] at hv;refine wpIn_cond hv.Cx ?_;cases t with
    | true=>exact(ih rd x st st' o (hrf.imp (λx=>x) λe=>by grind[Ij]) Li.1 h).1 g w a _ hs hQ
    | false=>exact(ih rd y st st' o (hrf.imp (λx=>x) λe=>by grind[Ij]) Li.2 h).1 g w a _ hs hQ
   grind
  | block id b=>
   refine⟨?_,λ_ e=>by grind⟩;simp only[Dy] at Li;simp only[IL] at h;intro g w a Q hs hQ;refine wpIn_block ?_;split at h
   .rename_i j FU h1
    refine(ih rd b st FU (.exit j) (hrf.imp (λx=>x) λe=>by assumption) Li h1).1 g w a _ hs λa' w' g' q1 q2 q3 q4=>?_
    show if j=id then Q .normal a' w' else Q (.exit j) a' w'
    cases hj:Nat.beq j id with
    | true=>
     rw[hj] at h;simp only[AH,Aw,A4] at h;obtain⟨rfl,rfl⟩:=h;rw[if_pos (Bo hj)];exact hQ a' w' g' q1 q2 q3 q4
    | false=>
     rw[hj] at h;simp only[AE,Aw,A4] at h;obtain⟨rfl,rfl⟩:=h;rw[if_neg (Nat.ne_of_beq_eq_false hj)];exact hQ a' w' g' q1 q2 q3 q4
   .rename_i hne
    refine(ih rd b st st' o (hrf.imp (λx=>x) λe=>by assumption) Li h).1 g w a _ hs λa' w' g' q1 q2 q3 q4=>?_
    have:=hQ a' w' g' q1 q2 q3 q4;cases o with
    | norm=>exact this
    | exit id=>grind
    | ret=>exact this
  | loop b=>
   have hpb:Dy L.pl b=true:=by assumption
   have hrb:rd=none\/Ij b=true:=hrf.imp (λx=>x) λe=>by assumption
   have hlw:Sv E L st o st' (λQ=>L4 rd E.P b Q):=by
    simp only[IL] at h;intro g w a Q hs hQ;refine L4.round ?_;split at h
    .rename_i FU h1
     refine(ih rd b st FU .norm hrb hpb h1).1 g w a _ hs λa' w' g' q1 q2 q3 q4=>?_
     exact(ih rd (.loop b) FU st' o hrf Li h).2 b rfl g' w' a' _ q1 λa'' w'' g'' r1 r2 r3 r4=>hQ a'' w'' g'' r1 (q2.trans r3 rfl q3.size r2) (q3.trans r3) (r4.trans q4)
    .rename_i hne
     refine(ih rd b st st' o hrb hpb h).1 g w a _ hs λa' w' g' q1 q2 q3 q4=>?_
     have:=hQ a' w' g' q1 q2 q3 q4;cases o with
     | norm=>grind
     | exit id=>exact this
     | ret=>exact this
   exact⟨λg w a Q hs hQ=>(hlw g w a Q hs hQ).wp,λb' e=>by grind⟩
  | rangeFunc go ps ca cb=>
   grind[Dy,X6,Ij]
  | _=>simp[IL] at h
def ABf (tmps:Array Value):ResultVar->Sem Value
 | .tmp t=>pure (tmps.getD t undef)
 | .cell x t=>do loadVar t (<-asAddr (tmps.getD x undef))
theorem fG (fn:Func) (tmps:Array Value):results fn tmps=(do let vs <-fn.results.mapM (ABf tmps); pure (if h:vs.size=1 then vs[0] else .tuple vs)):=by
 rfl
theorem fH {E:Env} {g:AI} {w:World} {st:St} {a:Act} (hs:fA E g w st a) {r:ResultVar} {v:AV} (h:Mh E st r=some v) :
  ∃u,(ABf a.tmps r).run E.P w=.ok u w/\V g w v u:=by
 cases r with
 | tmp t=>
  simp[Mh] at h; subst h;exact⟨_,rfl,hs.tmps t⟩
 | cell x t=>
  simp only[Mh] at h;obtain⟨u,h1,h2⟩:=Ls hs.inv (hs.tmps x) h;refine⟨u,?_,h2⟩;simp only[ABf];generalize a.tmps.getD x undef=q at h1 ⊢;simp only[Instr.loadAt] at h1;cases q with
  | pointer p=>
   cases p with
   | none=>simp_all[Instr.sureAddr]
   | some p=>assumption
  | _=>simp_all[Instr.sureAddr]
theorem Qq {E:Env} {g:AI} {w:World} {st:St} {a:Act} (hs:fA E g w st a):∀(rs:List ResultVar) (vs:List AV),FY E st rs=some vs ->
  ∃us,(rs.mapM (ABf a.tmps)).run E.P w=.ok us w/\VL g w vs us
 | [],vs,h=>by
  simp[FY] at h; subst h;exact⟨[],by simp,.nil⟩
 | r::rs,vs,h=>by
  simp only[FY] at h;split at h
  .rename_i v vs' h1 h2
   simp at h; subst h;obtain⟨u,k1,k2⟩:=fH hs h1;obtain⟨us,k3,k4⟩:=Qq hs rs vs' h2;refine⟨u::us,?_,.cons k2 k4⟩;simp[*]
  grind
theorem U1 {E:Env} {g:AI} {w:World} {st:St} {a:Act} {fn:Func} {vs:List AV} (hs:fA E g w st a) (h:FY E st fn.results.toList=some vs) :
  ∃u,(results fn a.tmps).run E.P w=.ok u w/\V g w (JC vs) u:=by
 obtain⟨us,h1,h2⟩:=Qq hs _ _ h
 have hr:(results fn a.tmps).run E.P w=.ok (if h:us.toArray.size=1 then us.toArray[0] else .tuple us.toArray) w:=by
  rw[fG,jP];simp[h1]
 refine⟨_,hr,?_⟩
 match vs,h2 with
 | [],h2=>
  have:=h2.E4
  grind[JC,V.tuple']
 | [v],h2=>
  obtain⟨u,us',rfl,k1,k2⟩:=h2.cases;have:=k2.E4
  grind[JC]
 | v1::v2::vs',h2=>
  have hl:=h2.len;simp only[CI] at hl;rw[dif_neg (by grind)];exact V.tuple' h2
theorem initρ_sound {g:AI} {w:World}:∀(args:List AV) (vs:List Value) (n t:Nat),VL g w args vs->V g w (initρ args t) ((vs++List.replicate n undef)[t]?.getD undef)
 | [],vs,n,t,h=>by
  rw[h.E4];have:((([]:List Value)++List.replicate n undef)[t]?.getD undef)=undef:=by grind
  rw[this];exact V.tuple' .nil
 | x::xs,vs,n,t,h=>by
  obtain⟨u,us,rfl,h1,h2⟩:=h.cases;cases t with
  | zero=>assumption
  | succ t=>simpa[initρ] using initρ_sound xs us n t h2
theorem Ob {P:Program} {fn:Func} {tmps:Array Value} {R:Ending->World->Prop} {g:AI}:∀(Ds:List Nat) (w:World),Ds.Nodup->(∀D∈Ds,w.heap[D]?=some (.deferred (some []))) ->
  (∀w',(∀k,k∉Ds->w'.heap[k]?=w.heap[k]?)->w'=Ds.foldl (λw D=>w.putObj D (.deferred none)) w->LeavesIn (FW none) 0 P fn tmps R [] .returning w')->LeavesInM (FW none) 0 P fn tmps R (Ds.map Zx) .returning w
 | [],w,_,_,h=>h w (λ_ _=>rfl) rfl
 | D::Ds,w,hn,hd,h=>by
  simp only[List.nodup_cons] at hn;refine⟨by simp,.inl ⟨D,_,rfl,run_takeDeferred (hd D (Ko ..)),?_⟩⟩;refine Ob (g:=g) Ds _ hn.2 (λD' hD'=>?_) λw' hw hw'=>?_
  all_goals grind[World.putObj_heap_other]
theorem tP {E:Env} {L:A3} {g g':AI} {w:World} {s:AM} (Oa:∀id k,g.blk id=some k->k<w.heap.size) (tJ:∀t l,g.tok t=some l->l.b<w.heap.size) (hml:∀id k,g.mp id=some k->k<w.heap.size) :
  ∀(Ds:List Nat) (w':World),(∀D∈Ds,w.heap.size<=D/\Ni g' D)->Inv E g' w' s->Ext L g w g' w' ->
   Inv E g' (Ds.foldl (λw D=>w.putObj D (.deferred none)) w') s/\Ext L g w g' (Ds.foldl (λw D=>w.putObj D (.deferred none)) w') /\
   ∀x v,V g' w' x v->V g' (Ds.foldl (λw D=>w.putObj D (.deferred none)) w') x v
 | [],_,_,hi,he=>⟨hi,he,λ_ _ h=>h⟩
 | D::Ds,w',hd,hi,he=>by
  obtain⟨a,b⟩:=hd D (Ko ..);obtain⟨r1,r2,r3⟩:=tP Oa tJ hml Ds (w'.putObj D (.deferred none)) (λD' h=>hd D' (Ew _ h)) (hi.L3 b _) (he.L3 a b Oa tJ hml _);exact⟨r1,r2,λx v h=>r3 x v (h.put b _)⟩
theorem Jq {E:Env} {cf:A3->Cn} {n:Nat} {L:A3} {f:FuncId} {fn:Func} {args:List AV} {s s':AM} {v:AV} {g:AI} {w:World} {vs:List Value} {body:Code} (Rs:HX E L (cf L)) (ee:E.P.follows .mixedOrders=true) (sN:∀k t,E.back k=some t->SD E.P k t)
  (hfn:E.P.funcs[f]?=some fn) (hbody:fn.body=some body) (Li:Dy L.pl body=true) (hN:args.length<=fn.ntmps)
  (hI:Inv E g w s) (hargs:VL g w args vs) (h:JD E cf n fn L args s=some (v,s')) :
  Calls E.P f vs.toArray w λe w'=>∃v' g',e=.returned v'/\V g' w' v v'/\Ext L g w g' w'/\Inv E g' w' s':=by
 unfold JD at h;rw[hbody] at h;simp only at h;refine(callsIn_wide (n:=0)).1 (callsIn_of_wp_marks (F:=FW none) hfn hbody AZ ?_ rfl)
 have hs:fA E g w ⟨fn.ntmps,initρ args,s⟩ { tmps:=vs.toArray++Array.replicate (fn.ntmps-vs.toArray.size) undef,defers:=[] }:=by
  refine⟨hI,?_,λt=>?_⟩
  .have:=hargs.len
   grind
  .have:=initρ_sound args vs (fn.ntmps-vs.length) t hargs
   simp_all[Array.getElem?_append,List.getElem?_append,Array.getElem?_replicate,List.getElem?_replicate]
 split at h
 .grind
 .rename_i o st hne hev
  split at h
  .rename_i rs hrs
   simp only[Aw,A4] at h;obtain⟨rfl,rfl⟩:=h;refine(oJ Rs ee sN n none body _ _ _ (.inl rfl) Li hev).1 g w _ _ hs λa' w' g' q1 q2 q3 q4=>?_
   have fin:LeavesInM (FW none) 0 E.P fn a'.tmps (λe w'=>∃v' g',e=.returned v'/\V g' w' (JC rs) v'/\Ext L g w g' w'/\Inv E g' w' st.s) a'.defers .returning w':=by
    obtain⟨Ds,d1,d2,d3⟩:=q2;simp only[Hj] at d1;rw[d1];refine Ob (g:=g') Ds w' d2 (λD hD=>(d3 D hD).2.1) λw'' _ hw''=>?_
    obtain⟨r1,r2,r3⟩:=tP (E:=E) (L:=L) (g:=g) (g':=g') (w:=w) (s:=st.s) (λid k hk=>hI.Dt hk) (λt l hl=>hI.Fc hl) (λid k hk=>hI.K0 hk) Ds w' (λD hD=>⟨(d3 D hD).1,(d3 D hD).2.2⟩) q1.inv q3;rw[<-hw''] at r1 r2 r3;have q1':fA E g' w'' st a':=⟨r1,q1.size,λt=>r3 _ _ (q1.tmps t)⟩;obtain⟨u,x1,x2⟩:=U1 q1' hrs;exact⟨u,x1,u,g',rfl,x2,r2,r1⟩
   cases o with
   | norm=>exact fin
   | exit id=>grind
   | ret=>exact fin
  grind
 grind
theorem Ext.Aj {L L':A3} {g g':AI} {w w':World} (h:Ext L g w g' w') (h1:L'.ro=L.ro) (h2:L'.rt=L.rt):Ext L' g w g' w':=
 {os:=h.os,tape:=h.tape,output:=h.output,size:=h.size,mono:=h.mono,cell:=h.cell,blk:=h.blk,dead:=h.dead,shape:=h.shape,tok:=h.tok,out:=h.out,G0:=h.G0,Jy:=h.Jy,C5:=h.C5,mp:=h.mp,Jw:=h.Jw
  FR:=λid b hb=>⟨λhlt=>(h.FR id b hb).1 (by omega),(h.FR id b hb).2⟩
  Fa:=λid b hb hlt=>h.Fa id b hb (by omega)
  FQ:=λt l hl hlt=>h.FQ t l hl (by omega) }
def Pr (E:Env) (f:FuncId) (T:A3->List AV->AM->Option (AV×AM)):Prop:=
 ∀(L:A3) (args:List AV) (s s':AM) (v:AV) (g:AI) (w:World) (vs:List Value),T L args s=some (v,s')->Inv E g w s->VL g w args vs ->
  (∃fn,E.P.funcs[f]?=some fn/\fn.body.isSome=true/\(fn.name== "runtime.NumGoroutine")=false) /\
  Calls E.P f vs.toArray w λe w'=>∃v' g',e=.returned v'/\V g' w' v v'/\Ext L g w g' w'/\Inv E g' w' s'
structure Good (E:Env):Prop where
 mix:E.P.follows .mixedOrders=true
 plans:∀(f:FuncId) (fn:Func) (body:Code),E.P.funcs[f]?=some fn->fn.body=some body->Dy (E.plan f) body=true
 names:∀(f:FuncId) (fn:Func),E.P.funcs[f]?=some fn->fn.body.isSome=true->(fn.name== "runtime.NumGoroutine")=false
 jh:∀f T,E.told f=some T->Pr E f T
 So:∀k t,E.back k=some t->SD E.P k t
 X3:∀f,E.clone f=true->E.told f=none->(∃fn,E.P.funcs[f]?=some fn/\fn.body.isSome=true) /\
  ∀(w:World) (base:Option Addr) (cap:Nat),Calls E.P f #[.slice base 0 cap] w λe w'=>∃b',e=.returned (.slice b' 0 0)/\(w'=w\/∃o,w'=Lh w o)
theorem X7 {E:Env} {cf:A3->Cn} {n:Nat} {L:A3} {f:FuncId} {fn:Func} {args:List AV} {s s':AM} {v:AV} {g:AI} {w:World} {vs:List Value} {body:Code} (hG:Good E) (Rs:∀L,HX E L (cf L))
  (hfn:E.P.funcs[f]?=some fn) (hbody:fn.body=some body) (hI:Inv E g w s) (hargs:VL g w args vs) (h:D4 E cf n L f fn args s=some (v,s')) :
  Calls E.P f vs.toArray w λe w'=>∃v' g',e=.returned v'/\V g' w' v v'/\Ext L g w g' w'/\Inv E g' w' s':=by
 have Li:=hG.plans f fn body hfn hbody;unfold D4 at h;split at h
 .rename_i hN
  have pure:∀args',AU [] 0 0 args=some args'->IW E cf n f fn args' s=some (v,s')->Calls E.P f vs.toArray w λe w'=>∃v' g',e=.returned v'/\V g' w' v v'/\Ext L g w g' w'/\Inv E g' w' s':=by
   intro args' Ba h;have X0:VL (AI.bare g.I) w args' vs:=F4 OU.nil Gs.bare _ _ _ Ba hargs;have hN':args'.length<=fn.ntmps:=by rw[X0.len,<-hargs.len]; omega
   unfold IW at h;split at h
   .rename_i x s1 hb
    split at h
    .rename_i y hy
     simp only[Aw,A4] at h;obtain⟨rfl,rfl⟩:=h;refine(Jq (Rs _) hG.mix hG.So hfn hbody Li hN' hI.bare X0 hb).mono ?_;rintro e w' ⟨v',g',rfl,hv,hx,hi⟩;obtain⟨r1,r2,r3,r4⟩:=tH (L:=L) hI hx hi
     grind[H7]
    grind
   grind
  have write:∀L',L'.ro=L.ro->L'.rt=L.rt->L'.pl=E.plan f->(match JD E cf n fn L' args s with|some (v,s')=>M8 (L.rr f) s.bs.length v s' | none=>none)=some (v,s') ->
    Calls E.P f vs.toArray w λe w'=>∃v' g',e=.returned v'/\V g' w' v v'/\Ext L g w g' w'/\Inv E g' w' s':=by
   intro L' e1 e2 e3 h;split at h
   .rename_i x s1 hb
    refine(Jq (Rs _) hG.mix hG.So hfn hbody (by grind) hN hI hargs hb).mono ?_
    grind[Zu]
   grind
  generalize E.kind f=k at h;cases k with
  | esc=>
   refine(Jq (Rs _) hG.mix hG.So hfn hbody Li hN hI hargs h).mono ?_;rintro e w' ⟨v',g',rfl,hv,hx,hi⟩;exact⟨v',g',rfl,hv,hx.Aj rfl rfl,hi⟩
  | rd=>
   simp only at h;split at h
   .grind
   .split at h
    .rename_i x s1 hb
     split at h
     .rename_i y hy
      simp only[Aw,A4] at h;obtain⟨rfl,rfl⟩:=h;refine(Jq (Rs _) hG.mix hG.So hfn hbody Li hN hI hargs hb).mono ?_;rintro e w' ⟨v',g',rfl,hv,hx,hi⟩;obtain⟨r1,r2,r3,r4⟩:=AHq (L:=L) hI rfl rfl hx hi
      grind[H7]
     grind
    grind
  | im=>
   grind[Gt]
  | st=>grind
 grind
theorem tQ {E:Env} (hG:Good E) {n:Nat} {cf:A3->Cn} (Rs:∀L,HX E L (cf L)) (L:A3) :
  HX E L (λf args s=>match E.P.funcs[f]? with
   | some fn=>bif E.clone f then OL E L f args s (D4 E cf n L f fn args s) else D4 E cf n L f fn args s
   | none=>none):=by
  intro f args s s' v g w vs h hI hargs;simp only at h;split at h
  .rename_i fn hfn
   have enter:D4 E cf n L f fn args s=some (v,s')->(∃fn,E.P.funcs[f]?=some fn/\fn.body.isSome=true/\(fn.name== "runtime.NumGoroutine")=false) /\
     Calls E.P f vs.toArray w λe w'=>∃v' g',e=.returned v'/\V g' w' v v'/\Ext L g w g' w'/\Inv E g' w' s':=by
    intro h;cases hb:fn.body with
    | none=>
     grind[D4,JD,IW]
    | some body=>
     refine⟨⟨fn,hfn,by grind,hG.names f fn hfn (by grind)⟩,?_⟩
     grind[X7]
   cases Ba:E.clone f with
   | true=>
    rw[Ba] at h;simp only[AH,OL] at h;cases ht:E.told f with
    | some T=>
     rw[ht] at h;exact hG.jh f T ht L args s s' v g w vs h hI hargs
    | none=>
     rw[ht] at h;simp only at h;cases he:JE args with
     | false=>grind
     | true=>
      rw[he] at h;simp only[AH,Aw,A4] at h;obtain⟨rfl,rfl⟩:=h;obtain⟨⟨fn',k1,k2⟩,k3⟩:=hG.X3 f Ba ht;refine⟨⟨fn',k1,k2,hG.names f fn' k1 k2⟩,?_⟩;unfold JE at he;split at he
      .rename_i x
       obtain⟨u,us,rfl,h1,h2⟩:=hargs.cases;have:=h2.E4;subst this;split at he
       .rename_i hr
        obtain⟨base,cap,b,o,sz,q,rfl,_,_⟩:=Dp h1 hr;refine(k3 w base cap).mono ?_;rintro e w' ⟨b',rfl,hw⟩;have hv:∀g w',V g w' (.AB []) (.slice b' 0 0):=λg w'=>V.AB (rows:=[]) (b:=0) (o:=0) (sz:=0) (f:=λ_ _=>undef) D5.nil
        rcases hw with rfl|⟨ob,rfl⟩
        .grind[Ext.refl]
        .obtain⟨r1,r2⟩:=Inv.jZ (L:=L) hI ob
         grind
       grind
      grind
   | false=>
    grind
  grind
theorem Qr {E:Env} (hG:Good E):∀(n:Nat) (L:A3),HX E L (DG E n L)
 | 0,L=>by intro f args s s' v g w vs h; grind[DG]
 | n+1,L=>λf args s s' v g w vs h hI hargs=>tQ hG (n:=n) (Qr hG n) L f args s s' v g w vs (by assumption) hI hargs
end Go.Tel
