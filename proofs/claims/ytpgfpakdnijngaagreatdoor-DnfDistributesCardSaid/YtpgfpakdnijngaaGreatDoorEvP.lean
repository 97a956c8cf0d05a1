/-
  Code: each piece that the evaluator answers is walked as it says.
-/
import Derived.Test.YtpgfpakdnijngaaGreatDoorEvO
set_option linter.unusedSimpArgs false
set_option linter.unusedVariables false
namespace Go.Tel
def MM (rd:Option Nat) (P:Program) (c:Code) (Q:Exit->Act->World->Prop) (a:Act) (w:World):Prop:=
 ∀ (b:Frame) (k:List Item) (cs:List Frame),b.roundOf=(FW rd).round->(FW rd).fn b.fn->(FW rd).room (cs.length+1+0) ->
  ∃ e a' w',Q e a' w'/\ArrivesIn (Machine.fenced P (FW rd)) P (lone (b.atR a (.code c::.inLoop c::k)) cs w) b k cs e a' w'
theorem MM.wp {rd:Option Nat} {P:Program} {c:Code} {Q:Exit->Act->World->Prop} {a:Act} {w:World} (h:MM rd P c Q a w):(Code.loop c).wpIn (FW rd) 0 P Q a w:=by
 intro b k cs hro hb hr;obtain⟨e,a',w',hq,Uh⟩:=h b k cs hro hb hr;exact⟨e,a',w',hq,.of_steps (.one (fenced_calm hb hr rfl) stepR_loop) Uh⟩
theorem MM.round {rd:Option Nat} {P:Program} {c:Code} {Q:Exit->Act->World->Prop} {a:Act} {w:World} (h:c.wpIn (FW rd) 0 P (Exit.then (MM rd P c Q) Q) a w):MM rd P c Q a w:=by
 intro b k cs hro hb hr;obtain⟨e,a₁,w₁,hq,Uh⟩:=h b (.inLoop c::k) cs hro hb hr;cases e with
 | normal=>
  obtain⟨e₂,a₂,w₂,hq₂,AHs⟩:=hq b k cs hro hb hr;exact⟨e₂,a₂,w₂,hq₂,.of_steps (StepsIn.trans Uh (.one (fenced_calm hb hr rfl) stepR_inLoop)) AHs⟩
 | exit id=>exact⟨_,a₁,w₁,hq,.pass (x:=.inLoop c) rfl (fun _ _=>.inl (by simp)) Uh⟩
 | goto l=>exact⟨_,a₁,w₁,hq,.pass (x:=.inLoop c) rfl (fun _ _=>.inl (by simp)) Uh⟩
 | ret=>exact⟨_,a₁,w₁,hq,.pass (x:=.inLoop c) rfl (fun _ _=>.inl (by simp)) Uh⟩
 | panic ch=>exact⟨_,a₁,w₁,hq,.pass (x:=.inLoop c) rfl (fun _ _=>.inl (by simp)) Uh⟩
 | outgrown=>exact⟨_,a₁,w₁,hq,.pass (x:=.inLoop c) rfl (fun _ _=>.inl (by simp)) Uh⟩
def Out.pH:Out->Exit
 | .norm=>.normal
 | .exit id=>.exit id
 | .ret=>.ret
def Sn (E:Env) (L:A0) (st:St) (o:Out) (st':St) (W:(Exit->Act->World->Prop)->Act->World->Prop):Prop:=
 ∀ (g:AH) (w:World) (a:Act) (Q:Exit->Act->World->Prop),dY E g w st a ->
  (∀ a' w' g',dY E g' w' st' a'->Marks w.heap.size a.defers g' w' a'.defers->Ext L g w g' w'->st'.N=st.N->Q o.pH a' w')->W Q a w
def MN (fn:FuncId) (tmps:Array Value) (ps:Array Tmp) (ca cb:Code) (D:Nat):Loop:={ state:=.ready,pending:=none,fn,tmps,params:=ps,assign:=ca,body:=cb,defers:=D }
theorem pI {tmps:Array Value} {p q t:Nat} {u x:Value} (hp:p<tmps.size) (hq:q<tmps.size) :
  ((tmps.setIfInBounds p u).setIfInBounds q x).getD t undef=if t=q then x else if t=p then u else tmps.getD t undef:=by
 simp only[Array.getD_eq_getD_getElem?,Ww,Array.size_setIfInBounds]
 by_cases h1:t=q
 ·subst h1; simp[hq]
 ·by_cases h2:t=p
  ·subst h2
   simp[Ce h1,hp,h1]
  ·simp[Ce h1,Ce h2,h1,h2]
set_option maxHeartbeats 1000000 in
theorem Xp {E:Env} {cf:A0->Co} {L:A0} {n:Nat} {g:Operand} {ps:Array Tmp} {ca cb:Code} {st st':St} {o:Out} (nR:∀ k t,E.back k=some t->SB E.P k t)
  (IH:∀ (l:Nat) (c:Code) (st st':St) (o:Out),(c=ca\/c=cb)->Hi c=true->HV E cf n L c st=some (o,st')->Sn E L st o st' (fun Q=>c.wpIn (FW (some l)) 0 E.P Q))
  (h:HV E cf (n+1) L (.rangeFunc g ps ca cb) st=some (o,st')):Sn E L st o st' (fun Q=>(Code.rangeFunc g ps ca cb).wpIn (FW none) 0 E.P Q):=by
 simp only[HV] at h;split at h
 ·rename_i k id p q hg hps
  split at h
  ·rename_i el c ARw AAj Xq
   split at h
   ·rename_i rows hrows
    cases hc:(Nat.ble L.ro id&&(Hi ca&&(Hi cb&&(Nat.blt p st.N&&(Nat.blt q st.N&&(!Nat.beq p q&&(Nat.ble rows.length 1000000000000000000&&(Dd E.P el).isSome))))))) with
    | false=>rw[hc] at h; simp at h
    | true=>
     rw[hc] at h;simp only[AE] at h;simp only[AG] at hc;obtain⟨hro,hna,hnb,hp,hq,hpq,hlen,hsz⟩:=hc;have hro:=Cm hro;have hp:p<st.N:=by simpa[IJ] using hp
     have hq:q<st.N:=by simpa[IJ] using hq
     have hlen:=Cm hlen;obtain⟨sz,hsz⟩:=Mp.1 hsz;split at h
     ·rename_i o1 s' hr
      simp only[AY,Af] at h;obtain⟨rfl,rfl⟩:=h;intro gh w a Q hs hQ;have hv:=AO hs.tmps g;rw[hg] at hv;obtain⟨vs,us,hval,h1,h2⟩:=hv.SW;have:=h1.Ee;subst this;obtain⟨u,us',rfl,hu,hn⟩:=h2.cases;have:=hn.Ee;subst this;cases hu with
      | Ki hd=>
       have:=hs.inv.DM id hd;rw[Xq] at this;simp at this
      | @ptr _ _ b hb=>
       obtain⟨cs,vs,e,k1,k2,wM,k3⟩:=hs.inv.blk id b hb;rw[Xq] at k1;simp only[AY] at k1;subst k1;cases vs with
       | nil=>simp at wM
       | cons v0 vs=>
       obtain⟨base,cap,bb,off,szr,ff,rfl,hcap,hrow⟩:=EC k3.head hrows;have hcell:w.cell? ⟨b,0,none⟩=some (.slice base rows.length cap):=by simp[World.cell?,k2]
       have AHt:=hs.inv.C4 hb;obtain⟨ek,ik⟩:=hs.inv.kill (L:=L) hb hro
       have ob:Nw (gh.kill id) b:=by
        refine⟨fun id' hb'=>?_,fun t l hl=>Ce (hs.inv.Cp id b t l hb hl),fun id' hb'=>hs.inv.yD hb' hb,fun i=>hs.inv.FT id b i hb⟩;simp only[AH.kill] at hb';split at hb'
        ·simp at hb'
        ·rename_i hne
         exact hne (hs.inv.ET id' id b hb' hb)
       obtain⟨e1,i1,oD⟩:=ik.AAi (L:=L) (.deferred (some []));refine wpIn_rangeFunc fun fn hfn=>?_
       obtain⟨e2,i2,oL⟩:=i1.AAi (L:=L) (.loop (MN fn a.tmps ps ca cb w.heap.size));rw[World.size_alloc] at oL;have hD1:(w.alloc (.deferred (some []))).heap[w.heap.size]?=some (.deferred (some [])):=World.alloc_heap_new _ _;obtain⟨oD2,hD2⟩:=oD.ext e2 (by rw[World.size_alloc]; omega)
       have hL2:((w.alloc (.deferred (some []))).alloc (.loop (MN fn a.tmps ps ca cb w.heap.size))).heap[w.heap.size+1]?=some (.loop (MN fn a.tmps ps ca cb w.heap.size)):=by
        have:=World.alloc_heap_new (w.alloc (.deferred (some []))) (.loop (MN fn a.tmps ps ca cb w.heap.size));rwa [World.size_alloc] at this
       have MA:=(ob.ext (e1.trans e2) AHt).2;obtain⟨fnk,SA,hk2,LS⟩:=(nR k el AAj).body;have hne:¬ fnk.body=none:=fun e=>by rw[e] at hk2; simp at hk2
       refine⟨w.heap.size+1,[Ze w.heap.size],(w.alloc (.deferred (some []))).alloc (.loop (MN fn a.tmps ps ca cb w.heap.size)),({ target:=.fn (.func k) #[.pointer (some ⟨b,0,none⟩)],args:=#[.func (.yield (w.heap.size+1)) #[] #[]] }:Deferred),
        (w.alloc (.deferred (some []))).alloc (.loop (MN fn a.tmps ps ca cb w.heap.size)),k,#[.func (.yield (w.heap.size+1)) #[] #[],.pointer (some ⟨b,0,none⟩)],(w.alloc (.deferred (some []))).alloc (.loop (MN fn a.tmps ps ca cb w.heap.size)),
        run_enterLoop_outer fn a.tmps ps ca cb,?_,fun _ _=>trivial,?_,fun(e:(FW none).depth.isSome=true)=>by simp[FW,Fence.wide] at e,?_⟩
       ·simp[resolve,rangeCall,hval,Deferred.ofValue]
        rfl
       ·simp[invoke,callFunc,SA,hne]
        simpa using LS
       ·have Ow:∀ id k,gh.blk id=some k->k<w.heap.size:=fun id k hk=>hs.inv.C4 hk
        have Xl:∀ t l,gh.tok t=some l->l.b<w.heap.size:=fun t l hl=>hs.inv.EE hl
        have hml:∀ id k,gh.mp id=some k->k<w.heap.size:=fun id k hk=>hs.inv.I9 hk
        have AHu:∀ i k,(gh.kill id).blk i=some k->k<w.heap.size:=fun i k hk=>ik.C4 hk
        have AHv:∀ t l,(gh.kill id).tok t=some l->l.b<w.heap.size:=fun t l hl=>ik.EE hl
        have AHw:∀ i k,(gh.kill id).mp i=some k->k<w.heap.size:=fun i k hk=>ik.I9 hk
        refine CallsIn.mono ((nR k el AAj).run sz hsz (w.heap.size+1) b rows.length cap base _
         (fun j W1=>∃ s1 g1,Fy (F5 E.P (HV E cf n L) ca cb st p q el) rows j s1=some (o1,s')/\W1.heap[w.heap.size+1]?=some (.loop (MN fn a.tmps ps ca cb w.heap.size))/\W1.heap[w.heap.size]?=some (.deferred (some [])) /\
          Nw g1 (w.heap.size+1)/\Nw g1 w.heap.size/\Inv E g1 W1 s1/\Ext L gh w g1 W1/\Ext L (gh.kill id) w g1 W1)
         (fun W1=>∃ g1 c,W1.heap[w.heap.size+1]?=some (.loop { MN fn a.tmps ps ca cb w.heap.size with state:=.done,pending:=some c })/\W1.heap[w.heap.size]?=some (.deferred (some [])) /\
          Nw g1 (w.heap.size+1)/\Nw g1 w.heap.size/\Inv E g1 W1 s'/\Ext L gh w g1 W1/\((o1=.ret/\c=.ret)\/∃ i,o1=.exit i/\c=.exit i))
         hlen ((Bn MA 0).trans hcell) ?_ ⟨_,_,hr,hL2,hD2.trans hD1,oL,oD2,i2,(ek.trans e1).trans e2,e1.trans e2⟩) ?_
        ·-- a round
         rintro j W1 hj ⟨s1,g1,LU,hl,hD,yO,oD1,i1',ex,exk⟩;refine⟨(Bn (ob.ext exk AHt).2 0).trans hcell,?_⟩;obtain⟨row,oy⟩:∃ row,rows[j]?=some row:=⟨_,Ak hj⟩;simp only[Fy,oy] at LU;cases hel:iG E.P el row with
         | none=>simp[F5,hel] at LU
         | some v=>
         cases hA:HV E cf n L ca ⟨st.N,XM (XM st.ρ p (IW (.int .i64 j))) q v,s1⟩ with
         | none=>simp[F5,hel,hA] at LU
         | some rA=>
         obtain⟨oA,stA⟩:=rA;cases oA with
         | exit i=>simp[F5,hel,hA] at LU
         | ret=>simp[F5,hel,hA] at LU
         | norm=>
         cases hB:HV E cf n L cb stA with
         | none=>simp[F5,hel,hA,hB] at LU
         | some rB=>
         obtain⟨oB,stB⟩:=rB;simp only[F5,hel,hA,hB] at LU;unfold iG at hel;split at hel
         ·rename_i hz
          have hszr:row.length=szr:=hrow.hsz row (BK oy);have ANx:sz=szr:=by rw[hz.1] at hsz; simp only[AY] at hsz; omega
          subst ANx
          have hVe:V g1 W1 (.DK row 0) (.pointer (some ⟨bb,off+j*sz+0,none⟩)):=.DK 0 (ff j) fun jj c hjj=>by
           obtain⟨x1,x2⟩:=hrow.hc j row jj c oy hjj;exact⟨ex.mono _ _ x1,by rw[ex.cell _ _ x1]; exact x2,(hrow.hv j row jj c oy hjj).mono ex.mono ex.cell⟩
          obtain⟨x,hx1,hx2⟩:=L9 (s:=s1) (t:=el) i1' hVe (by simpa[NM] using hel);have AHy:ps=#[p,q]:=by rw[<-Fp (xs:=ps),hps]
          refine⟨bb,off,x,hrow.hbase (fun e=>by rw[e] at hj; simp at hj) (by omega),fun qq hqq=>by
            obtain⟨cc,Y2⟩:∃ cc,row[qq]?=some cc:=⟨_,Ak (by omega)⟩;obtain⟨x1,x2⟩:=hrow.hc j row qq cc oy Y2;exact⟨_,(ex.cell _ _ x1).trans x2⟩,
           by simpa using hx1,fn,_,ca,cb,run_yield hl (by simp[MN,AHy]),roundIn_of_wpIn Al ?_⟩
          have dy:((MN fn a.tmps ps ca cb w.heap.size).params.zip #[.int .i64 (j:Int),x]).foldl (fun(tmps:Array Value) (t,a)=>tmps.setIfInBounds t a) (MN fn a.tmps ps ca cb w.heap.size).tmps=(a.tmps.setIfInBounds p (.int .i64 j)).setIfInBounds q x:=by
           simp[MN,AHy]
          rw[dy]
          have ANy:dY E g1 W1 ⟨st.N,XM (XM st.ρ p (IW (.int .i64 j))) q v,s1⟩ { tmps:=(a.tmps.setIfInBounds p (.int .i64 j)).setIfInBounds q x,defers:=[] }:=by
           refine⟨i1',by simp[hs.size],fun t=>?_⟩;rw[pI (by rw[hs.size]; exact hp) (by rw[hs.size]; exact hq)]
           show V g1 W1 (XM (XM st.ρ p (IW (.int .i64 j))) q v t) _
           by_cases h1:t=q
           ·subst h1; simp only[Dr]; simpa[XM] using hx2
           ·rw[if_neg h1]
            have n1:Nat.beq t q=false:=iW h1
            by_cases h2:t=p
            ·subst h2; simp only[Dr]; simp only[XM,n1,AB,Nat.beq_refl,AE]; exact V.IW _
            ·rw[if_neg h2]
             have n2:Nat.beq t p=false:=iW h2;simp only[XM,n1,n2,AB];exact(hs.tmps t).mono ex
          refine IH (w.heap.size+1) ca _ stA .norm (.inl rfl) hna hA g1 W1 _ _ ANy fun a' w' g' q1 q2 q3 q4=>?_
          obtain⟨oL',hl'⟩:=yO.ext q3 (EI hl);obtain⟨oD',lX⟩:=oD1.ext q3 (EI hD);have hl':=hl'.trans hl;have lX:=lX.trans hD;refine⟨_,run_beginRound hl' rfl,?_⟩;have hlt:=EI hl';refine IH (w.heap.size+1) cb stA stB oB (.inr rfl) hnb hB g' _ a' _ ⟨q1.inv.ML oL' _,q1.size,fun t=>(q1.tmps t).put oL' _⟩ fun a'' w'' g'' r1 r2 r3 r4=>?_
          obtain⟨Up,lY⟩:=oL'.ext r3 (by rw[World.putObj_size]; exact hlt);obtain⟨ADq,pJ⟩:=oD'.ext r3 (by rw[World.putObj_size]; exact EI lX);have lY:=lY.trans (World.putObj_heap_same hlt);have pJ:=(pJ.trans (World.putObj_heap_other (by omega))).trans lX;have exA:=((ex.trans q3).ML (by omega) oL' Ow Xl hml (.loop { MN fn a.tmps ps ca cb w.heap.size with state:=.busy })).trans r3;have exB:=((exk.trans q3).ML (by omega) oL' AHu AHv AHw (.loop { MN fn a.tmps ps ca cb w.heap.size with state:=.busy })).trans r3;have pK:=EI lY;cases oB with
          | norm=>
           refine⟨_,_,run_endRound none lY,.inl ⟨rfl,stB.s,g'',LU,?_,?_,Up,ADq,r1.inv.ML Up _,exA.ML (by omega) Up Ow Xl hml _,exB.ML (by omega) Up AHu AHv AHw _⟩⟩
           ·exact World.putObj_heap_same pK
           ·exact(World.putObj_heap_other (by omega)).trans pJ
          | ret=>
           simp only[AY,Af] at LU;obtain⟨rfl,rfl⟩:=LU;refine⟨_,_,run_endRound (some .ret) lY,.inr ⟨rfl,g'',.ret,?_,?_,Up,ADq,r1.inv.ML Up _,exA.ML (by omega) Up Ow Xl hml _,.inl ⟨rfl,rfl⟩⟩⟩
           ·exact World.putObj_heap_same pK
           ·exact(World.putObj_heap_other (by omega)).trans pJ
          | exit i=>
           simp only[AY,Af] at LU;obtain⟨rfl,rfl⟩:=LU;refine⟨_,_,run_endRound (some (.exit i)) lY,.inr ⟨rfl,g'',.exit i,?_,?_,Up,ADq,r1.inv.ML Up _,exA.ML (by omega) Up Ow Xl hml _,.inr ⟨i,rfl,rfl⟩⟩⟩
           ·exact World.putObj_heap_same pK
           ·exact(World.putObj_heap_other (by omega)).trans pJ
         ·simp at hel
        ·-- the end
         rintro e w' ⟨⟨v,rfl⟩,hj⟩;rcases hj with ⟨s1,g1,LU,hl,hD,yO,oD1,i1',ex,_⟩|⟨g1,c,hl,hD,yO,oD1,i1',ex,Y2⟩
         ·simp only[Fy,AY,Af] at LU
          obtain⟨rfl,rfl⟩:=LU;refine⟨_,_,run_endLoop hl (by simp[MN]),?_⟩
          exact hQ { a with defers:=[Ze w.heap.size]++a.defers } _ g1 ⟨i1'.ML yO _,hs.size,fun t=>((hs.tmps t).mono ex).put yO _⟩
           ⟨[w.heap.size],rfl,by simp,fun D lX=>by
            simp only[Bj] at lX;subst lX;exact⟨AL _,(World.putObj_heap_other (by omega)).trans hD,oD1⟩⟩ (ex.ML (by omega) yO Ow Xl hml _) rfl
         ·refine⟨_,_,run_endLoop hl (by simp),?_⟩
          have fin:=hQ { a with defers:=[Ze w.heap.size]++a.defers } _ g1 ⟨i1'.ML yO (.loop { MN fn a.tmps ps ca cb w.heap.size with state:=.exhausted,pending:=some c }),hs.size,fun t=>((hs.tmps t).mono ex).put yO _⟩
           ⟨[w.heap.size],rfl,by simp,fun D lX=>by
            simp only[Bj] at lX;subst lX;exact⟨AL _,(World.putObj_heap_other (by omega)).trans hD,oD1⟩⟩ (ex.ML (by omega) yO Ow Xl hml _) rfl
          rcases Y2 with ⟨rfl,rfl⟩|⟨i,rfl,rfl⟩
          ·exact wpIn_ret fin
          ·exact wpIn_exit fin
     ·simp at h
   ·simp at h
  ·simp at h
 ·simp at h
theorem lZ {E:Env} {cf:A0->Co} {L:A0} (Qk:Hr E L (cf L)) (dU:E.P.follows .mixedOrders=true) (nR:∀ k t,E.back k=some t->SB E.P k t) :
  ∀ (n:Nat) (rd:Option Nat) (c:Code) (st st':St) (o:Out),(rd=none\/Hi c=true)->ED L.pl c=true->HV E cf n L c st=some (o,st') ->
   Sn E L st o st' (fun Q=>c.wpIn (FW rd) 0 E.P Q)/\∀ b,c=.loop b->Sn E L st o st' (fun Q=>MM rd E.P b Q):=by
 intro n
 induction n with
 | zero=>intro rd c st st' o _ _ h; simp[HV] at h
 | succ n ih=>
  intro rd c st st' o yP JM h
  have done:∀ (o':Out) {W:(Exit->Act->World->Prop)->Act->World->Prop},(∀ Q a w,Q o'.pH a w->W Q a w)->some (o',st)=some (o,st')->Sn E L st o st' W:=by
   intro o' W hW e g w a Q hs hQ;simp only[AY,Af] at e;obtain⟨rfl,rfl⟩:=e;exact hW _ _ _ (hQ a w g hs (Marks.refl _ _ _ _) (Ext.refl _ _ _) rfl)
  cases c with
  | skip=>exact⟨done .norm (fun _ _ _ h=>wpIn_skip h) h,fun _ e=>by simp at e⟩
  | ret=>exact⟨done .ret (fun _ _ _ h=>wpIn_ret h) h,fun _ e=>by simp at e⟩
  | exit id=>exact⟨done (.exit id) (fun _ _ _ h=>wpIn_exit h) h,fun _ e=>by simp at e⟩
  | region id ops draw=>
   refine⟨?_,fun _ e=>by simp at e⟩;cases draw with
   | false=>
    simp only[HV] at h;split at h
    ·rename_i E7 h1
     simp only[AY,Af] at h;obtain⟨rfl,rfl⟩:=h;intro g w a Q hs hQ;refine wpIn_region ?_;have:=dZ (rd:=rd) (Q:=Q) Qk ops.toList.length 0 ops.toList st E7 a w g rfl rfl hs h1 (fun a' w' g' q1 q2 q3 q4=>hQ a' w' g' q1 (by rw[q2]; exact Marks.refl _ _ _ _) q3 q4);rw[DS] at this;rw[List.range_eq_range'];exact this
    ·simp at h
   | true=>
    simp only[HV] at h;simp only[ED,AG] at JM
    have run:∀ (k:Nat) (E7:St),(match L.pl k with|some p=>SR ops p|none=>true)=true->I7 E L (cf L) ops st (L.pl k)=some E7->some (Out.norm,E7)=some (o,st')->Sn E L st o st' (fun Q=>(Code.region id ops true).wpIn (FW rd) 0 E.P Q):=by
     intro k E7 hk h1 e;simp only[AY,Af] at e;obtain⟨rfl,rfl⟩:=e;cases hp:L.pl k with
     | none=>rw[hp] at h1; simp[I7] at h1
     | some p=>
      rw[hp] at h1 hk;simp only[I7] at h1;simp only at hk;intro g w a Q hs hQ;exact dW Qk dU hk hs.inv hs.size hs.tmps h1 fun a' w' g' q1 q2 q3 q4 q5 q6=>hQ a' w' g' ⟨q4,q1,q5⟩ (by rw[q2]; exact Marks.refl _ _ _ _) q3 q6
    split at h
    ·rename_i E7 h1
     unfold oH at h1;split at h1
     ·rename_i p hp
      split at h1
      ·exact run id E7 JM.1 (by rw[hp]; exact h1) h
      ·exact run (id+1000000) E7 JM.2 h1 h
     ·exact run (id+1000000) E7 JM.2 h1 h
    ·simp at h
  | seq x y=>
   refine⟨?_,fun _ e=>by simp at e⟩;simp only[ED,AG] at JM;have LU:rd=none\/Hi x=true:=yP.imp (fun x=>x) fun e=>by simp only[Hi,AG] at e; exact e.1
   have Qs:rd=none\/Hi y=true:=yP.imp (fun x=>x) fun e=>by simp only[Hi,AG] at e; exact e.2
   simp only[HV] at h;intro g w a Q hs hQ;refine wpIn_seq ?_;split at h
   ·rename_i E7 h1
    refine(ih rd x st E7 .norm LU JM.1 h1).1 g w a _ hs fun a' w' g' q1 q2 q3 q4=>?_
    exact(ih rd y E7 st' o Qs JM.2 h).1 g' w' a' _ q1 fun a'' w'' g'' r1 r2 r3 r4=>hQ a'' w'' g'' r1 (q2.trans r3 rfl q3.size r2) (q3.trans r3) (r4.trans q4)
   ·rename_i hne
    refine(ih rd x st st' o LU JM.1 h).1 g w a _ hs fun a' w' g' q1 q2 q3 q4=>?_
    have:=hQ a' w' g' q1 q2 q3 q4;cases o with
    | norm=>exact absurd h (hne st')
    | exit id=>exact this
    | ret=>exact this
  | cond c x y=>
   refine⟨?_,fun _ e=>by simp at e⟩;simp only[ED,AG] at JM;simp only[HV] at h;intro g w a Q hs hQ;split at h
   ·rename_i t ht
    have hv:=AO hs.tmps c;rw[ht] at hv;refine wpIn_cond hv.CM ?_;cases t with
    | true=>exact(ih rd x st st' o (yP.imp (fun x=>x) fun e=>by simp only[Hi,AG] at e; exact e.1) JM.1 h).1 g w a _ hs hQ
    | false=>exact(ih rd y st st' o (yP.imp (fun x=>x) fun e=>by simp only[Hi,AG] at e; exact e.2) JM.2 h).1 g w a _ hs hQ
   ·simp at h
  | block id b=>
   refine⟨?_,fun _ e=>by simp at e⟩;simp only[ED] at JM;simp only[HV] at h;intro g w a Q hs hQ;refine wpIn_block ?_;split at h
   ·rename_i j E7 h1
    refine(ih rd b st E7 (.exit j) (yP.imp (fun x=>x) fun e=>by simpa only[Hi] using e) JM h1).1 g w a _ hs fun a' w' g' q1 q2 q3 q4=>?_
    show if j=id then Q .normal a' w' else Q (.exit j) a' w'
    cases hj:Nat.beq j id with
    | true=>
     rw[hj] at h;simp only[AE,AY,Af] at h;obtain⟨rfl,rfl⟩:=h;rw[if_pos (BM hj)];exact hQ a' w' g' q1 q2 q3 q4
    | false=>
     rw[hj] at h;simp only[AB,AY,Af] at h;obtain⟨rfl,rfl⟩:=h;rw[if_neg (Nat.ne_of_beq_eq_false hj)];exact hQ a' w' g' q1 q2 q3 q4
   ·rename_i hne
    refine(ih rd b st st' o (yP.imp (fun x=>x) fun e=>by simpa only[Hi] using e) JM h).1 g w a _ hs fun a' w' g' q1 q2 q3 q4=>?_
    have:=hQ a' w' g' q1 q2 q3 q4;cases o with
    | norm=>exact this
    | exit id=>exact absurd h (hne id st')
    | ret=>exact this
  | loop b=>
   have hpb:ED L.pl b=true:=by simpa[ED] using JM
   have hrb:rd=none\/Hi b=true:=yP.imp (fun x=>x) fun e=>by simpa only[Hi] using e
   have hlw:Sn E L st o st' (fun Q=>MM rd E.P b Q):=by
    simp only[HV] at h;intro g w a Q hs hQ;refine MM.round ?_;split at h
    ·rename_i E7 h1
     refine(ih rd b st E7 .norm hrb hpb h1).1 g w a _ hs fun a' w' g' q1 q2 q3 q4=>?_
     exact(ih rd (.loop b) E7 st' o yP JM h).2 b rfl g' w' a' _ q1 fun a'' w'' g'' r1 r2 r3 r4=>hQ a'' w'' g'' r1 (q2.trans r3 rfl q3.size r2) (q3.trans r3) (r4.trans q4)
    ·rename_i hne
     refine(ih rd b st st' o hrb hpb h).1 g w a _ hs fun a' w' g' q1 q2 q3 q4=>?_
     have:=hQ a' w' g' q1 q2 q3 q4;cases o with
     | norm=>exact absurd h (hne st')
     | exit id=>exact this
     | ret=>exact this
   exact⟨fun g w a Q hs hQ=>(hlw g w a Q hs hQ).wp,fun b' e=>by simp at e; subst e; exact hlw⟩
  | rangeFunc go ps ca cb=>
   refine⟨?_,fun _ e=>by simp at e⟩;rcases yP with rfl|e
   ·simp only[ED,AG] at JM
    refine Xp nR (fun l c st st' o hc hn he=>(ih (some l) c st st' o (.inr hn) ?_ he).1) h;rcases hc with rfl|rfl
    ·exact JM.1
    ·exact JM.2
   ·simp[Hi] at e
  | _=>simp[HV] at h
def yQ (tmps:Array Value):ResultVar->Sem Value
 | .tmp t=>pure (tmps.getD t undef)
 | .cell x t=>do loadVar t (<-asAddr (tmps.getD x undef))
theorem dz (fn:Func) (tmps:Array Value):results fn tmps=(do let vs <-fn.results.mapM (yQ tmps); pure (if h:vs.size=1 then vs[0] else .tuple vs)):=by
 rfl
theorem eB {E:Env} {g:AH} {w:World} {st:St} {a:Act} (hs:dY E g w st a) {r:ResultVar} {v:AV} (h:Mv E st r=some v) :
  ∃ u,(yQ a.tmps r).run E.P w=.ok u w/\V g w v u:=by
 cases r with
 | tmp t=>
  simp[Mv] at h; subst h;exact⟨_,rfl,hs.tmps t⟩
 | cell x t=>
  simp only[Mv] at h;obtain⟨u,h1,h2⟩:=L9 hs.inv (hs.tmps x) h;refine⟨u,?_,h2⟩;simp only[yQ];generalize a.tmps.getD x undef=q at h1 ⊢;simp only[Instr.loadAt] at h1;cases q with
  | pointer p=>
   cases p with
   | none=>simp[Instr.sureAddr,stuck] at h1
   | some p=>simpa[Instr.sureAddr,asAddr] using h1
  | _=>simp[Instr.sureAddr,stuck] at h1
theorem Qt {E:Env} {g:AH} {w:World} {st:St} {a:Act} (hs:dY E g w st a):∀ (rs:List ResultVar) (vs:List AV),F4 E st rs=some vs ->
  ∃ us,(rs.mapM (yQ a.tmps)).run E.P w=.ok us w/\VL g w vs us
 | [],vs,h=>by
  simp[F4] at h; subst h;exact⟨[],by simp,.nil⟩
 | r::rs,vs,h=>by
  simp only[F4] at h;split at h
  ·rename_i v vs' h1 h2
   simp at h; subst h;obtain⟨u,k1,k2⟩:=eB hs h1;obtain⟨us,k3,k4⟩:=Qt hs rs vs' h2;refine⟨u::us,?_,.cons k2 k4⟩;simp[List.mapM_cons,k1,k3]
  ·simp at h
theorem Uq {E:Env} {g:AH} {w:World} {st:St} {a:Act} {fn:Func} {vs:List AV} (hs:dY E g w st a) (h:F4 E st fn.results.toList=some vs) :
  ∃ u,(results fn a.tmps).run E.P w=.ok u w/\V g w (JS vs) u:=by
 obtain⟨us,h1,h2⟩:=Qt hs _ _ h
 have hr:(results fn a.tmps).run E.P w=.ok (if h:us.toArray.size=1 then us.toArray[0] else .tuple us.toArray) w:=by
  rw[dz,gw];simp[h1]
 refine⟨_,hr,?_⟩
 match vs,h2 with
 | [],h2=>
  have:=h2.Ee;subst this;simpa[JS] using V.tuple' h2
 | [v],h2=>
  obtain⟨u,us',rfl,k1,k2⟩:=h2.cases;have:=k2.Ee;subst this;simpa[JS] using k1
 | v1::v2::vs',h2=>
  have hl:=h2.len;simp only[A3] at hl;rw[dif_neg (by rw[List.size_toArray]; omega)];exact V.tuple' h2
theorem initρ_sound {g:AH} {w:World}:∀ (args:List AV) (vs:List Value) (n t:Nat),VL g w args vs->V g w (initρ args t) ((vs++List.replicate n undef)[t]?.getD undef)
 | [],vs,n,t,h=>by
  rw[h.Ee]
  have:((([]:List Value)++List.replicate n undef)[t]?.getD undef)=undef:=by
   simp only[Di,hU];split <;> rfl
  rw[this];exact V.tuple' .nil
 | x::xs,vs,n,t,h=>by
  obtain⟨u,us,rfl,h1,h2⟩:=h.cases;cases t with
  | zero=>simpa[initρ] using h1
  | succ t=>simpa[initρ] using initρ_sound xs us n t h2
theorem Ox {P:Program} {fn:Func} {tmps:Array Value} {R:Ending->World->Prop} {g:AH}:∀ (Ds:List Nat) (w:World),Ds.Nodup->(∀ D∈Ds,w.heap[D]?=some (.deferred (some []))) ->
  (∀ w',(∀ k,k∉Ds->w'.heap[k]?=w.heap[k]?)->w'=Ds.foldl (fun w D=>w.putObj D (.deferred none)) w->LeavesIn (FW none) 0 P fn tmps R [] .returning w')->LeavesInM (FW none) 0 P fn tmps R (Ds.map Ze) .returning w
 | [],w,_,_,h=>h w (fun _ _=>rfl) rfl
 | D::Ds,w,hn,hd,h=>by
  simp only[List.nodup_cons] at hn;refine⟨by simp,.inl ⟨D,_,rfl,run_takeDeferred (hd D (I1 ..)),?_⟩⟩;refine Ox (g:=g) Ds _ hn.2 (fun D' lX=>?_) fun w' hw hw'=>?_
  ·have hne:D'≠D:=fun e=>hn.1 (e ▸ lX)
   exact(World.putObj_heap_other hne).trans (hd D' (Du _ lX))
  ·refine h w' (fun k hk=>?_) (by simpa using hw')
   have h1:k∉Ds:=fun e=>hk (Du _ e)
   have h2:k≠D:=fun e=>hk (e ▸ I1 ..)
   exact(hw k h1).trans (World.putObj_heap_other h2)
theorem pM {E:Env} {L:A0} {g g':AH} {w:World} {s:AK} (Ow:∀ id k,g.blk id=some k->k<w.heap.size) (Xl:∀ t l,g.tok t=some l->l.b<w.heap.size) (hml:∀ id k,g.mp id=some k->k<w.heap.size) :
  ∀ (Ds:List Nat) (w':World),(∀ D∈Ds,w.heap.size<=D/\Nw g' D)->Inv E g' w' s->Ext L g w g' w' ->
   Inv E g' (Ds.foldl (fun w D=>w.putObj D (.deferred none)) w') s/\Ext L g w g' (Ds.foldl (fun w D=>w.putObj D (.deferred none)) w') /\
   ∀ x v,V g' w' x v->V g' (Ds.foldl (fun w D=>w.putObj D (.deferred none)) w') x v
 | [],_,_,hi,he=>⟨hi,he,fun _ _ h=>h⟩
 | D::Ds,w',hd,hi,he=>by
  obtain⟨a,b⟩:=hd D (I1 ..);obtain⟨r1,r2,r3⟩:=pM Ow Xl hml Ds (w'.putObj D (.deferred none)) (fun D' h=>hd D' (Du _ h)) (hi.ML b _) (he.ML a b Ow Xl hml _);exact⟨r1,r2,fun x v h=>r3 x v (h.put b _)⟩
theorem KF {E:Env} {cf:A0->Co} {n:Nat} {L:A0} {f:FuncId} {fn:Func} {args:List AV} {s s':AK} {v:AV} {g:AH} {w:World} {vs:List Value} {body:Code} (Qk:Hr E L (cf L)) (dU:E.P.follows .mixedOrders=true) (nR:∀ k t,E.back k=some t->SB E.P k t)
  (hfn:E.P.funcs[f]?=some fn) (hbody:fn.body=some body) (JM:ED L.pl body=true) (hN:args.length<=fn.ntmps)
  (hI:Inv E g w s) (hargs:VL g w args vs) (h:Iv E cf n fn L args s=some (v,s')) :
  Calls E.P f vs.toArray w fun e w'=>∃ v' g',e=.returned v'/\V g' w' v v'/\Ext L g w g' w'/\Inv E g' w' s':=by
 unfold Iv at h;rw[hbody] at h;simp only at h;refine(callsIn_wide (n:=0)).1 (callsIn_of_wp_marks (F:=FW none) hfn hbody Al ?_ rfl)
 have hs:dY E g w ⟨fn.ntmps,initρ args,s⟩ { tmps:=vs.toArray++Array.replicate (fn.ntmps-vs.toArray.size) undef,defers:=[] }:=by
  refine⟨hI,?_,fun t=>?_⟩
  ·have:=hargs.len
   simp; omega
  ·have:=initρ_sound args vs (fn.ntmps-vs.length) t hargs
   simpa[Array.getElem?_append,List.getElem?_append,Array.getElem?_replicate,hU] using this
 split at h
 ·simp at h
 ·rename_i o st hne yG
  split at h
  ·rename_i rs hrs
   simp only[AY,Af] at h;obtain⟨rfl,rfl⟩:=h;refine(lZ Qk dU nR n none body _ _ _ (.inl rfl) JM yG).1 g w _ _ hs fun a' w' g' q1 q2 q3 q4=>?_
   have fin:LeavesInM (FW none) 0 E.P fn a'.tmps (fun e w'=>∃ v' g',e=.returned v'/\V g' w' (JS rs) v'/\Ext L g w g' w'/\Inv E g' w' st.s) a'.defers .returning w':=by
    obtain⟨Ds,d1,d2,d3⟩:=q2;simp only[IC] at d1;rw[d1];refine Ox (g:=g') Ds w' d2 (fun D hD=>(d3 D hD).2.1) fun w'' _ hw''=>?_
    obtain⟨r1,r2,r3⟩:=pM (E:=E) (L:=L) (g:=g) (g':=g') (w:=w) (s:=st.s) (fun id k hk=>hI.C4 hk) (fun t l hl=>hI.EE hl) (fun id k hk=>hI.I9 hk) Ds w' (fun D hD=>⟨(d3 D hD).1,(d3 D hD).2.2⟩) q1.inv q3;rw[<-hw''] at r1 r2 r3;have q1':dY E g' w'' st a':=⟨r1,q1.size,fun t=>r3 _ _ (q1.tmps t)⟩;obtain⟨u,x1,x2⟩:=Uq q1' hrs;exact⟨u,x1,u,g',rfl,x2,r2,r1⟩
   cases o with
   | norm=>exact fin
   | exit id=>exact absurd rfl (hne id)
   | ret=>exact fin
  ·simp at h
 ·simp at h
theorem Ext.Ao {L L':A0} {g g':AH} {w w':World} (h:Ext L g w g' w') (h1:L'.ro=L.ro) (h2:L'.rt=L.rt):Ext L' g w g' w':=
 {os:=h.os,tape:=h.tape,output:=h.output,size:=h.size,mono:=h.mono,cell:=h.cell,blk:=h.blk,dead:=h.dead,shape:=h.shape,tok:=h.tok,out:=h.out,Gk:=h.Gk,JU:=h.JU,C1:=h.C1,mp:=h.mp,JT:=h.JT
  FJ:=fun id b hb=>⟨fun hlt=>(h.FJ id b hb).1 (by rw[<-h1]; exact hlt),(h.FJ id b hb).2⟩
  Fa:=fun id b hb hlt=>h.Fa id b hb (by rw[<-h1]; exact hlt)
  FI:=fun t l hl hlt=>h.FI t l hl (by rw[<-h2]; exact hlt) }
def P0 (E:Env) (f:FuncId) (T:A0->List AV->AK->Option (AV×AK)):Prop:=
 ∀ (L:A0) (args:List AV) (s s':AK) (v:AV) (g:AH) (w:World) (vs:List Value),T L args s=some (v,s')->Inv E g w s->VL g w args vs ->
  (∃ fn,E.P.funcs[f]?=some fn/\fn.body.isSome=true/\(fn.name== "runtime.NumGoroutine")=false) /\
  Calls E.P f vs.toArray w fun e w'=>∃ v' g',e=.returned v'/\V g' w' v v'/\Ext L g w g' w'/\Inv E g' w' s'
structure Good (E:Env):Prop where
 mix:E.P.follows .mixedOrders=true
 plans:∀ (f:FuncId) (fn:Func) (body:Code),E.P.funcs[f]?=some fn->fn.body=some body->ED (E.plan f) body=true
 names:∀ (f:FuncId) (fn:Func),E.P.funcs[f]?=some fn->fn.body.isSome=true->(fn.name== "runtime.NumGoroutine")=false
 iU:∀ f T,E.told f=some T->P0 E f T
 Sj:∀ k t,E.back k=some t->SB E.P k t
 Xm:∀ f,E.clone f=true->E.told f=none->(∃ fn,E.P.funcs[f]?=some fn/\fn.body.isSome=true) /\
  ∀ (w:World) (base:Option Addr) (cap:Nat),Calls E.P f #[.slice base 0 cap] w fun e w'=>∃ b',e=.returned (.slice b' 0 0)/\(w'=w\/∃ o,w'=HE w o)
theorem Xr {E:Env} {cf:A0->Co} {n:Nat} {L:A0} {f:FuncId} {fn:Func} {args:List AV} {s s':AK} {v:AV} {g:AH} {w:World} {vs:List Value} {body:Code} (hG:Good E) (Qk:∀ L,Hr E L (cf L))
  (hfn:E.P.funcs[f]?=some fn) (hbody:fn.body=some body) (hI:Inv E g w s) (hargs:VL g w args vs) (h:D3 E cf n L f fn args s=some (v,s')) :
  Calls E.P f vs.toArray w fun e w'=>∃ v' g',e=.returned v'/\V g' w' v v'/\Ext L g w g' w'/\Inv E g' w' s':=by
 have JM:=hG.plans f fn body hfn hbody;unfold D3 at h;split at h
 ·rename_i hN
  have pure:∀ args',AN [] 0 0 args=some args'->Iw E cf n f fn args' s=some (v,s')->Calls E.P f vs.toArray w fun e w'=>∃ v' g',e=.returned v'/\V g' w' v v'/\Ext L g w g' w'/\Inv E g' w' s':=by
   intro args' Bu h;have Xh:VL (AH.bare g.I) w args' vs:=Gc Om.nil G7.bare _ _ _ Bu hargs;have hN':args'.length<=fn.ntmps:=by rw[Xh.len,<-hargs.len]; exact hN
   unfold Iw at h;split at h
   ·rename_i x s1 hb
    split at h
    ·rename_i y hy
     simp only[AY,Af] at h;obtain⟨rfl,rfl⟩:=h;refine(KF (Qk _) hG.mix hG.Sj hfn hbody JM hN' hI.bare Xh hb).mono ?_;rintro e w' ⟨v',g',rfl,hv,hx,hi⟩;obtain⟨r1,r2,r3,r4⟩:=o6 (L:=L) hI hx hi;exact⟨v',_,rfl,IZ r4 r3 _ _ _ hy hv,r1,r2⟩
    ·simp at h
   ·simp at h
  have write:∀ L',L'.ro=L.ro->L'.rt=L.rt->L'.pl=E.plan f->(match Iv E cf n fn L' args s with|some (v,s')=>NR (L.rr f) s.bs.length v s' | none=>none)=some (v,s') ->
    Calls E.P f vs.toArray w fun e w'=>∃ v' g',e=.returned v'/\V g' w' v v'/\Ext L g w g' w'/\Inv E g' w' s':=by
   intro L' e1 e2 e3 h;split at h
   ·rename_i x s1 hb
    refine(KF (Qk _) hG.mix hG.Sj hfn hbody (by rw[e3]; exact JM) hN hI hargs hb).mono ?_;rintro e w' ⟨v',g',rfl,hv,hx,hi⟩;obtain⟨g'',r1,r2,r3⟩:=ZZ hI e1 e2 hx hi hv h;exact⟨v',g'',rfl,r1,r2,r3⟩
   ·simp at h
  generalize E.kind f=k at h;cases k with
  | esc=>
   refine(KF (Qk _) hG.mix hG.Sj hfn hbody JM hN hI hargs h).mono ?_;rintro e w' ⟨v',g',rfl,hv,hx,hi⟩;exact⟨v',g',rfl,hv,hx.Ao rfl rfl,hi⟩
  | rd=>
   simp only at h;split at h
   ·rename_i args' Bu
    exact pure args' Bu h
   ·split at h
    ·rename_i x s1 hb
     split at h
     ·rename_i y hy
      simp only[AY,Af] at h;obtain⟨rfl,rfl⟩:=h;refine(KF (Qk _) hG.mix hG.Sj hfn hbody JM hN hI hargs hb).mono ?_;rintro e w' ⟨v',g',rfl,hv,hx,hi⟩;obtain⟨r1,r2,r3,r4⟩:=ADg (L:=L) hI rfl rfl hx hi;exact⟨v',_,rfl,IZ r4 r3 _ _ _ hy hv,r1,r2⟩
     ·simp at h
    ·simp at h
  | im=>
   cases hb:BN args with
   | true=>
    simp only[hb,AE] at h;exact pure args (G8 0 0 args hb) h
   | false=>
    simp only[hb,AB] at h;exact write ⟨0,L.ro,L.rt,E.mu f,E.rr f,E.plan f⟩ rfl rfl rfl h
  | st=>exact write ⟨0,L.ro,L.rt,E.mu f,E.rr f,E.plan f⟩ rfl rfl rfl h
 ·simp at h
theorem pN {E:Env} (hG:Good E) {n:Nat} {cf:A0->Co} (Qk:∀ L,Hr E L (cf L)) (L:A0) :
  Hr E L (fun f args s=>match E.P.funcs[f]? with
   | some fn=>bif E.clone f then L8 E L f args s (D3 E cf n L f fn args s) else D3 E cf n L f fn args s
   | none=>none):=by
  intro f args s s' v g w vs h hI hargs;simp only at h;split at h
  ·rename_i fn hfn
   have enter:D3 E cf n L f fn args s=some (v,s')->(∃ fn,E.P.funcs[f]?=some fn/\fn.body.isSome=true/\(fn.name== "runtime.NumGoroutine")=false) /\
     Calls E.P f vs.toArray w fun e w'=>∃ v' g',e=.returned v'/\V g' w' v v'/\Ext L g w g' w'/\Inv E g' w' s':=by
    intro h;cases hb:fn.body with
    | none=>
     exfalso;unfold D3 at h;split at h
     ·have hnb:∀ L args s,Iv E cf n fn L args s=none:=fun L args s=>by simp[Iv,hb]
      simp only[Iw,hnb] at h;generalize E.kind f=k at h;cases k with
      | esc=>simp at h
      | rd=>simp only at h; split at h <;> simp at h
      | im=>cases hb:BN args <;> simp[hb] at h
      | st=>simp at h
     ·simp at h
    | some body=>
     refine⟨⟨fn,hfn,by simp[hb],hG.names f fn hfn (by simp[hb])⟩,?_⟩;exact Xr hG Qk hfn hb hI hargs h
   cases Bu:E.clone f with
   | true=>
    rw[Bu] at h;simp only[AE,L8] at h;cases ht:E.told f with
    | some T=>
     rw[ht] at h;exact hG.iU f T ht L args s s' v g w vs h hI hargs
    | none=>
     rw[ht] at h;simp only at h;cases he:Gl args with
     | false=>rw[he] at h; exact enter h
     | true=>
      rw[he] at h;simp only[AE,AY,Af] at h;obtain⟨rfl,rfl⟩:=h;obtain⟨⟨fn',k1,k2⟩,k3⟩:=hG.Xm f Bu ht;refine⟨⟨fn',k1,k2,hG.names f fn' k1 k2⟩,?_⟩;unfold Gl at he;split at he
      ·rename_i x
       obtain⟨u,us,rfl,h1,h2⟩:=hargs.cases;have:=h2.Ee;subst this;split at he
       ·rename_i hr
        obtain⟨base,cap,b,o,sz,q,rfl,_,_⟩:=EC h1 hr;refine(k3 w base cap).mono ?_;rintro e w' ⟨b',rfl,hw⟩;have hv:∀ g w',V g w' (.AA []) (.slice b' 0 0):=fun g w'=>V.AA (rows:=[]) (b:=0) (o:=0) (sz:=0) (f:=fun _ _=>undef) EH.nil
        rcases hw with rfl|⟨ob,rfl⟩
        ·exact⟨_,g,rfl,hv _ _,Ext.refl _ _ _,hI⟩
        ·obtain⟨r1,r2⟩:=Inv.ZH (L:=L) hI ob
         exact⟨_,_,rfl,hv _ _,r1,r2⟩
       ·simp at he
      ·simp at he
   | false=>
    rw[Bu] at h;exact enter h
  ·simp at h
theorem Qu {E:Env} (hG:Good E):∀ (n:Nat) (L:A0),Hr E L (Cw E n L)
 | 0,L=>by intro f args s s' v g w vs h; simp[Cw] at h
 | n+1,L=>fun f args s s' v g w vs h hI hargs=>pN hG (n:=n) (Qu hG n) L f args s s' v g w vs (by
   simp only[Cw] at h;cases hf:E.P.funcs[f]? with
   | none=>rw[hf] at h; simp at h
   | some fn=>rw[hf] at h; simp only[hf]; exact h) hI hargs
end Go.Tel
