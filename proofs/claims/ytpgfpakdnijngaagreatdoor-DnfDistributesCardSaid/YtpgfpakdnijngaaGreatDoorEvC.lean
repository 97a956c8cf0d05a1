/-
  Single operations, part 5: slices made, cut and appended to.
-/
import Derived.Test.YtpgfpakdnijngaaGreatDoorEvB
set_option linter.unusedSimpArgs false
set_option linter.unusedVariables false
namespace Go.Tel
theorem XW {place:Nat->Option (Nat×Nat)} (parts:List (Nat×AV)):∀ (cs cs':List AV),Lp place cs parts=some cs'->cs'.length=cs.length:=by
 induction parts with
 | nil=>intro cs cs' h; simp[Lp] at h; rw[h]
 | cons p parts ih=>
  intro cs cs' h;simp only[Lp] at h;split at h
  ·simp at h
  ·split at h
   ·rw[ih _ _ h,Fb]
   ·simp at h
theorem Oe {E:Env} {L:A0} {g:AH} {w:World} {s s':AK} (hI:Inv E g w s) {t:TypeId} {len:Nat} {parts:List (Nat×AV)} {ps:List (Nat×Value)} {v:AV}
  (hk:parts.map (·.1)=ps.map (·.1)) (hv:∀ (i:Nat) p q,parts[i]?=some p->ps[i]?=some q->V g w p.2 q.2) (h:G1 E.P L s t len parts=some (v,s')) :
  ∃ v' w' g',(Instr.buildSlice t len ps.toArray).run E.P w=.ok v' w'/\V g' w' v v'/\Ext L g w g' w'/\Inv E g' w' s':=by
 unfold G1 at h;split at h
 ·rename_i elem hu
  split at h
  ·rename_i k z hk' hz
   split at h
   ·rename_i hc
    obtain⟨NT,Pc,Rq⟩:=hc;split at h
    ·rename_i cs hf
     obtain⟨i,hi,cZ⟩:=FP hk';obtain⟨i',zv,hi',hz',hrun,hzl⟩:=Dw (g:=g) (w:=w) hz;have hzs:zv.cells.size=k:=by rw[<-DS,<-hzl.len]; exact Pc
     obtain⟨vs',Og,hvl⟩:=Nn (place:=fun i=>some (i*k,k)) parts hk hv (hzl.Fh len) hf;have Bu:cs.length=len*k:=by rw[XW _ _ _ hf,J6,Pc]
     have hlen:vs'.length=len*k:=by rw[<-hvl.len]; exact Bu
     have hr:(Instr.buildSlice t len ps.toArray).run E.P w=.ok (.slice (some ⟨w.heap.size,0,none⟩) len len) (CO w vs' elem):=by
      simp only[Instr.buildSlice,Sem.run_bind,run_underlying hu,Result.andThen_ok,run_sizeOf hi,cZ];rw[if_neg (by omega)]
      by_cases yF:len*k=0
      ·have ANP:len=0:=by
        rcases W0.1 yF with x|x
        ·exact x
        ·exact absurd x Rq
       subst ANP;have ANQ:Tel.Fh 0 zv.cells.toList=[]:=rfl;rw[ANQ] at Og;simp only[Ml,Dr,Sem.run_bind,Sem.run_pure,Result.andThen_ok];rw[show(Array.map (fun x=>(#[]:Array Value)[x % (#[]:Array Value).size]!) (Array.range 0))=⟨[]⟩ from by apply D9; simp,Og];rfl
      ·simp only[yF,Dk,Sem.run_bind,hrun,Result.andThen_ok,Sem.run_pure]
       have:=SL zv.cells len (by omega);rw[hzs] at this ⊢;rw[this,Og];rfl
     cases UT:(L.mu elem&&Nat.blt 0 len) with
     | true=>
      simp only[UT,AE] at h;simp only[AY,Af] at h;obtain⟨rfl,rfl⟩:=h;obtain⟨e1,e2⟩:=hI.Qi (L:=L) elem hvl.full.1 hvl.full.2;refine⟨_,_,_,hr,V.ref (b:=w.heap.size) (e:=elem) (n:=vs'.length) ?_ (AL _) ?_ ?_,e1,e2⟩
      ·simp[AH.F1]
      ·exact Be (by rw[Bm,if_pos rfl])
      ·omega
     | false=>
      simp only[UT,AB] at h;split at h
      ·rename_i qs hq
       simp only[AY,Af] at h;obtain⟨rfl,rfl⟩:=h;obtain⟨e1,e2⟩:=hI.AAQ (L:=L) vs' elem;obtain⟨k1,k2⟩:=G3 hvl hq;have AHQ:Flat g.I w (B6 k len qs) k vs':=IY hlen k1 k2;have ADN:=AHQ.mono e1.mono e1.cell
       have wN:=ADN.dF (b:=w.heap.size) (o:=0) (fun q _=>.inr rfl) (fun q u hq=>by
        rw[Bd (by rw[Bm,if_pos rfl])]; simpa using hq)
       refine⟨_,_,_,hr,?_,e1,e2⟩;have:=V.AA (g:=g.dD fun b _=>b=w.heap.size) (w:=CO w vs' elem) wN;rw[EF] at this;exact this
      ·simp at h
    ·simp at h
   ·simp at h
  ·simp at h
 ·simp at h
theorem Inv.alive {E:Env} {g:AH} {w:World} {s:AK} (h:Inv E g w s) {id:Nat} (ha:Tel.alive s id=true):¬ g.dead id:=fun hd=>by
 have:=h.DM id hd;simp[Tel.alive,this] at ha
theorem Ph {E:Env} {P:Program} {g:AH} {w:World} {s:AK} (hI:Inv E g w s) {t:TypeId} {x ix v:AV} {xv iv:Value} (hx:V g w x xv) (hi:V g w ix iv) (h:Hf P s t x ix=some v) :
  ∃ v',(Instr.indexAt t xv iv).run P w=.ok v' w/\V g w v v':=by
 unfold Hf at h
 have hint:∀ i,XO ix=some i->∃ k,iv=.int k i:=by
  intro i hi';unfold XO at hi';split at hi'
  ·rename_i k n; simp at hi'; subst hi'; exact⟨k,hi.CM⟩
  ·simp at hi'
 split at h
 ·rename_i elem i hu SM
  obtain⟨ik,rfl⟩:=hint i SM;split at h
  ·rename_i k hk
   obtain⟨ti,Oh,cZ⟩:=FP hk;split at h
   ·rename_i rows hrows
    split at h
    ·rename_i h0
     split at h
     ·rename_i row hrow
      split at h
      ·rename_i hlen
       simp at h; subst h;obtain⟨base,cap,b,o,sz,f,rfl,hcap,hr⟩:=EC hx hrows;have hsz:sz=k:=by rw[<-hr.hsz row (BK hrow)]; exact hlen.1
       subst hsz;have hb:=hr.hbase (by intro e; rw[e] at hrow; simp at hrow) hlen.2;subst hb;have hlt:=Bl hrow;refine⟨_,?_,V.DK (b:=b) (o:=o+i.toNat*sz) 0 (fun j=>f i.toNat j) (fun j c hj=>⟨(hr.hc _ row j c hrow hj).1,(hr.hc _ row j c hrow hj).2,hr.hv _ row j c hrow hj⟩)⟩;have hi2:i<(rows.length:Int):=by omega
       simp[Instr.indexAt,asIntOf,run_underlying hu,h0,hi2,run_sizeOf Oh,cZ,DW]
      ·simp at h
     ·simp at h
    ·simp at h
   ·split at h
    ·rename_i id off len sz
     split at h
     ·rename_i hb
      obtain⟨hb0,NF,MA,hal⟩:=hb;simp at h; subst h;cases hx with
      | @ref _ _ _ _ b cap n e F2 hcap hs hn=>
       refine⟨_,?_,V.ptr F2⟩;simp[Instr.indexAt,asIntOf,run_underlying hu,hb0,NF,run_sizeOf Oh,cZ,DW]
      | I8 hd=>exact absurd hd (hI.alive hal)
     ·simp at h
    ·simp at h
  ·simp at h
 ·rename_i len elem i hu SM
  obtain⟨ik,rfl⟩:=hint i SM;split at h
  ·rename_i k hk
   obtain⟨ti,Oh,cZ⟩:=FP hk;split at h
   ·rename_i hb
    split at h
    ·rename_i id off
     cases hal:Tel.alive s id with
     | false=>simp[hal] at h
     | true=>
     simp[hal] at h; subst h;cases hx with
     | Ki hd=>exact absurd hd (hI.alive hal)
     | @ptr _ _ b F2=>
      refine⟨_,?_,V.ptr F2⟩;simp[Instr.indexAt,Instr.sureAddr,asIntOf,run_underlying hu,hb,run_sizeOf Oh,cZ,DW]
    ·simp at h; subst h
     cases hx with
     | De=>
      refine⟨_,?_,V.De _ _⟩;simp[Instr.indexAt,Instr.sureAddr,asIntOf,run_underlying hu,hb,run_sizeOf Oh,cZ,DW]
    ·simp at h; subst h
     cases hx with
     | @DK _ b o _ f hr=>
      refine⟨_,?_,V.DK (b:=b) (o:=o) _ f hr⟩;simp[Instr.indexAt,Instr.sureAddr,asIntOf,run_underlying hu,hb,run_sizeOf Oh,cZ,DW,K6]
    ·simp at h
   ·simp at h
  ·simp at h
 ·simp at h
theorem Kj {E:Env} {P:Program} {g:AH} {w:World} {s:AK} (hI:Inv E g w s) {t:TypeId} {x v:AV} {xv:Value} {fi:Nat} (hx:V g w x xv) (h:He P s t x fi=some v) :
  ∃ v',(∀ w2:World,(Instr.fieldAt t xv fi).run P w2=.ok v' w2)/\V g w v v':=by
 unfold He at h;split at h
 ·rename_i fields hu
  split at h
  ·rename_i f hf
   split at h
   ·rename_i k hk
    obtain⟨ti,Oh,cZ⟩:=FP hk;split at h
    ·simp at h
    ·rename_i cj
     have ADO:ti.size≠0:=by rw[cZ]; exact cj
     split at h
     ·rename_i id off
      cases hal:Tel.alive s id with
      | false=>simp[hal] at h
      | true=>
      simp[hal] at h; subst h;cases hx with
      | Ki hd=>exact absurd hd (hI.alive hal)
      | @ptr _ _ b F2=>
       refine⟨_,fun w2=>?_,V.ptr F2⟩;simp[Instr.fieldAt,Instr.sureAddr,fieldPlace,run_underlying hu,hf,run_sizeOf Oh,ADO,DW]
     ·simp at h; subst h
      cases hx with
      | De=>
       refine⟨_,fun w2=>?_,V.De _ _⟩;simp[Instr.fieldAt,Instr.sureAddr,fieldPlace,run_underlying hu,hf,run_sizeOf Oh,ADO,DW]
     ·simp at h; subst h
      cases hx with
      | @DK _ b o _ ff hr=>
       refine⟨_,fun w2=>?_,V.DK (b:=b) (o:=o) _ ff hr⟩;simp[Instr.fieldAt,Instr.sureAddr,fieldPlace,run_underlying hu,hf,run_sizeOf Oh,ADO,DW,K6]
     ·simp at h
   ·simp at h
  ·simp at h
 ·simp at h
theorem XX {P:Program} {g:AH} {w:World} {t:TypeId} {x v:AV} {xv:Value} {fi:Nat} (hx:V g w x xv) (h:SD P t x fi=some v) :
  ∃ v',(Instr.field t xv fi).run P w=.ok v' w/\V g w v v':=by
 unfold SD at h;split at h
 ·rename_i fields cs hu
  split at h
  ·rename_i f hf
   obtain⟨vs,rfl,hl⟩:=hx.Rp;obtain⟨v',h1,h2⟩:=XU (P:=P) hl h;exact⟨v',by simp[Instr.field,run_underlying hu,hf,asAgg,h1],h2⟩
  ·simp at h
 ·simp at h
theorem Uc {P:Program} {α β:Type} {w:World} (f:α->Sem β) (h:α->β) (l:List α) (hf:∀ x∈l,(f x).run P w=.ok (h x) w) :
  (l.mapM f).run P w=.ok (l.map h) w:=by
 induction l with
 | nil=>simp
 | cons x l ih=>
  rw[List.mapM_cons];simp only[Sem.run_bind,hf x (by simp),Result.andThen_ok,ih (fun y hy=>hf y (by simp[hy])),Sem.run_pure,CI]
theorem SN {P:Program} {α β:Type} {w:World} (f:α->Sem β) (h:α->β) (l:Array α) (hf:∀ x∈l.toList,(f x).run P w=.ok (h x) w) :
  (l.mapM f).run P w=.ok (l.map h) w:=by
 rw[gw];simp only[Sem.run_map,Uc f h l.toList hf,Result.andThen_ok];congr 1;apply D9;simp
theorem XY {P:Program} {g:AH} {w:World} {t:TypeId} {parts:List (Nat×AV)} {ps:List (Nat×Value)} {v:AV}
  (hk:parts.map (·.1)=ps.map (·.1)) (hv:∀ (i:Nat) p q,parts[i]?=some p->ps[i]?=some q->V g w p.2 q.2) (h:Pd P t parts=some v) :
  ∃ v',(Instr.build t ps.toArray).run P w=.ok v' w/\V g w v v':=by
 unfold Pd at h;split at h
 ·rename_i z fields hz hu
  split at h
  ·rename_i cs hf
   split at h
   ·rename_i hall
    simp at h; subst h;obtain⟨i,zv,hi,iI,hrun,hzl⟩:=Dw (g:=g) (w:=w) hz;obtain⟨vs',Og,hvl⟩:=Nn parts hk hv hzl hf;refine⟨.agg ⟨vs'⟩,?_,V.lJ hvl⟩
    have hmap:(fields.mapM fun f=>(do pure (f.offset,<-sizeOf f.type):Sem (Nat×Nat))).run P w=.ok (fields.map fun f=>(f.offset,(Dd P f.type).getD 0)) w:=by
     apply SN;intro f hfm;have:=Array.all_eq_true'.1 hall f (Array.mem_toList_iff.1 hfm);cases hs:Dd P f.type with
     | none=>simp[hs] at this
     | some k=>
      obtain⟨ti,Oh,cZ⟩:=FP hs;simp[run_sizeOf Oh,cZ]
    have ADP:(fun i=>(fields.map fun f=>(f.offset,(Dd P f.type).getD 0))[i]?)=XN P fields:=by
     funext j
     rw[Array.getElem?_map];unfold XN;cases hj:fields[j]? with
     | none=>rfl
     | some f=>
      have:=Array.all_eq_true'.1 hall f (Wt hj);cases hs:Dd P f.type with
      | none=>simp[hs] at this
      | some k=>simp[hs]
    simp only[Instr.build,Sem.run_bind,hrun,Result.andThen_ok,run_underlying hu,hmap];rw[ADP];have e:(⟨zv.cells.toList⟩:Array Value)=zv.cells:=rfl;rw[e] at Og;rw[Og];rfl
   ·simp at h
  ·simp at h
 ·rename_i z n elem hz hu
  split at h
  ·rename_i k hk'
   split at h
   ·rename_i cs hf
    simp at h; subst h;obtain⟨ti,Oh,cZ⟩:=FP hk';obtain⟨i,zv,hi,iI,hrun,hzl⟩:=Dw (g:=g) (w:=w) hz;obtain⟨vs',Og,hvl⟩:=Nn parts hk hv hzl hf;refine⟨.agg ⟨vs'⟩,?_,V.lJ hvl⟩;simp only[Instr.build,Sem.run_bind,hrun,Result.andThen_ok,run_underlying hu,run_sizeOf Oh,cZ];have e:(⟨zv.cells.toList⟩:Array Value)=zv.cells:=rfl;rw[e] at Og;rw[Og];rfl
   ·simp at h
  ·simp at h
 ·simp at h
theorem ZI {α:Type} {k:Nat} (hk:k≠0) (rows:List (List α)) (h:∀ r∈rows,r.length=k):∀ q:Nat,rows.flatten[q]?=(rows[q / k]?).bind (fun r=>r[q % k]?):=by
 induction rows with
 | nil=>intro q; simp
 | cons r rows ih=>
  intro q;have hr:r.length=k:=h r (by simp);rw[GO];rcases CU q k with hq|hq
  ·rw[BA (by omega),Nat.div_eq_of_lt hq,Wz hq]
   simp
  ·rw[CV (by omega),ih (fun r hr=>h r (by simp[hr])),hr]
   have e1:q / k=(q-k) / k+1:=Nat.div_eq_sub_div (by omega) hq;have e2:(q-k) % k=q % k:=by rw[<-Nat.mod_eq_sub_mod hq]
   rw[e1,e2];simp
theorem MB {α:Type} {k:Nat} (rows:List (List α)) (h:∀ r∈rows,r.length=k):rows.flatten.length=rows.length*k:=by
 induction rows with
 | nil=>simp
 | cons r rows ih=>
  rw[GO,Ab,ih (fun r hr=>h r (by simp[hr])),h r (by simp),A3,CH];omega
theorem Flat.vl {g:AH} {w:World} {rows:List (List PV)} {k:Nat} {us:List Value} (h:Flat g.I w rows k us) (hk:k≠0):VL g w (rows.flatten.map .pv) us:=by
 refine⟨by rw[AZ,MB rows h.hsz,h.len],fun q c v h1 h2=>?_⟩;rw[DR,ZI hk rows h.hsz] at h1;cases hr:rows[q / k]? with
 | none=>simp[hr] at h1
 | some row=>
  cases hj:row[q % k]? with
  | none=>simp[hr,hj] at h1
  | some p=>
   simp[hr,hj] at h1; subst h1;obtain⟨u,h3,h4⟩:=h.at_ (q / k) row (q % k) p hr hj;rw[show q / k*k+q % k=q by have:=Nat.div_add_mod q k; rw[IE] at this; omega] at h3;rw[h2] at h3; simp at h3; subst h3;exact .pv h4
theorem LM {rows:List (List PV)} {k:Nat} (h:(rows.all fun r=>r.length==k)=true):∀ r∈rows,r.length=k:=fun r hr=>by
 have:=Bs.1 h r hr; simpa using this
theorem EH.VK {I:Nat->Nat->Prop} {w:World} {rows:List (List PV)} {base:Option Addr} {b o sz k:Nat} {f:Nat->Nat->Value} (h:EH I w rows base b o sz f) (hk:k≠0)
  (hl:∀ r∈rows,r.length=k) (cap:Nat):∃ us,Flat I w rows k us/\(∀ q u,us[q]?=some u->I b (o+q)/\w.cell? ⟨b,o+q,none⟩=some u)/\∀ (P:Program) (w':World),w'.heap=w.heap->(Builtin.firstCells k rows.length (.slice base rows.length cap)).run P w'=.ok (List.toArray us) w':=by
 by_cases hne:rows=[]
 ·subst hne
  refine⟨[],⟨by simp,by simp,by simp⟩,by simp,fun P w' _=>?_⟩;cases base with
  | none=>simp[Builtin.firstCells]
  | some a=>simp[Builtin.firstCells,loadCells,loadCellsFrom]
 ·obtain⟨r,rs,rfl⟩:∃ r rs,rows=r::rs:=by cases rows with|nil=>exact absurd rfl hne|cons r rs=>exact⟨r,rs,rfl⟩
  have hsk:sz=k:=by rw[<-h.hsz r (by simp)]; exact hl r (by simp)
  subst hsk;obtain⟨us,hf,hc⟩:=h.flat hk;refine⟨us,hf,hc,fun P w' hw'=>?_⟩;rw[h.hbase hne hk];simp only[Builtin.firstCells];rw[<-hf.len];exact Em us (fun j u hj=>(Bn (w:=w) (w':=w') (by rw[hw']) (o+j)).trans (hc j u hj).2)
theorem HN {E:Env} {g:AH} {w:World} {s:AK} (hI:Inv E g w s) {y:AV} {yv:Value} {k:Nat} {cs:List AV} (hy:V g w y yv) (hk:k≠0) (h:C8 s k y=some cs) :
  ∃ n us,(Builtin.lenOf yv).run E.P w=.ok n w/\cs.length=n*k/\(∀ w',w'.heap=w.heap->(Builtin.firstCells k n yv).run E.P w'=.ok (List.toArray us) w')/\VL g w cs us:=by
 unfold C8 at h;split at h
 ·rename_i b
  split at h
  ·rename_i SA
   subst SA;simp at h; subst h;have:=hy.CM; subst this;refine⟨b.size,b.data.toList.map fun b=>.int .u8 b.toNat,by simp[Builtin.lenOf],by rw[AZ,DS,Mm]; rfl,fun w' _=>?_,?_⟩
   ·simp only[Builtin.firstCells]
    have:b.extract 0 b.size=b:=by simp
    rw[this,Sem.run_pure];congr 1;apply D9;simp
   ·refine⟨by simp,fun i c v h1 h2=>?_⟩
    rw[DR] at h1 h2;cases hb:b.data.toList[i]? with
    | none=>simp[hb] at h1
    | some x=>simp only[hb,Jw,AY] at h1 h2; subst h1; subst h2; exact V.IW _
  ·simp at h
 ·rename_i id off len sz
  split at h
  ·rename_i bcs hb
   split at h
   ·rename_i hc
    obtain⟨NT,Pc,hal⟩:=hc;subst Pc;simp at h; subst h;cases hy with
    | I8 hd=>exact absurd hd (hI.alive hal)
    | @ref _ _ _ _ b cap n e F2 hcap hs hn=>
     obtain⟨cs',vs,e',k1,k2,wM,k3⟩:=hI.blk id b F2;rw[hb] at k1; simp at k1; subst k1;have hvl:=(k3.drop off).take (len*sz);refine⟨len,_,by simp[Builtin.lenOf],by simp; omega,fun w' hw'=>?_,hvl⟩;simp only[Builtin.firstCells];have hlen:(((vs.take bcs.length).drop off).take (len*sz)).length=len*sz:=by simp; omega
     have:=Em (P:=E.P) (w:=w') (b:=b) (o:=off) (((vs.take bcs.length).drop off).take (len*sz)) (fun j u hj=>by
      rw[Bd (by rw[hw']; exact k2)];rw[CT] at hj;split at hj
      ·rw[GM,CT] at hj
       split at hj
       ·exact hj
       ·simp at hj
      ·simp at hj)
     rw[hlen] at this;exact this
   ·simp at h
  ·simp at h
 ·split at h
  ·rename_i rows hrows
   split at h
   ·rename_i hall
    simp only[AY] at h; subst h;have hl:=LM hall;obtain⟨base,cap,b,o,sz,f,rfl,hcap,hr⟩:=EC hy hrows;obtain⟨us,hf,_,hrun⟩:=hr.VK hk hl cap;exact⟨rows.length,us,by simp[Builtin.lenOf],by rw[AZ,MB rows hl],fun w' hw'=>hrun E.P w' hw',hf.vl hk⟩
   ·simp at h
  ·simp at h
theorem run_append_room {P:Program} {w:World} {t u elem:TypeId} {d:TypeDesc} {i:TypeInfo} {base:Option Addr} {sLen sCap n:Nat} {x:Value} {us:List Value} (T:TypeId) (ts:List TypeId)
  (ht:P.underlying t=some (.slice elem)) (hi:P.info? elem=some i) (hu:P.underlying u=some d) (hd:∀ k,d≠.int k)
  (hn:(Builtin.lenOf x).run P w=.ok n w) (hf:(Builtin.firstCells i.size n x).run P w=.ok (List.toArray us) w) (hroom:sLen+n<=sCap) :
  (Builtin.append_ (List.toArray (t::u::ts)) T #[.slice base sLen sCap,x]).run P w =
   match base with
   | none=>.ok (.slice base (sLen+n) sCap) w
   | some a=>((storeCells (a.add (sLen*i.size)) us).run P w).andThen fun _ w'=>.ok (.slice base (sLen+n) sCap) w':=by
 simp only[Builtin.append_];simp[run_underlying ht,run_sizeOf hi,run_underlying hu,hn,hroom,hf];cases base <;> simp
theorem lM (newLen:Nat):∀ (r c:Nat),Builtin.growBy newLen r c<=max c (newLen+(newLen+768) / 4):=by
 intro r
 induction r with
 | zero=>intro c; simp[Builtin.growBy]; omega
 | succ r ih=>
  intro c;simp only[Builtin.growBy];split
  ·omega
  ·have:=ih (c+(c+768) / 4)
   omega
theorem nextslicecap_le (need cap:Nat) (h:cap<need):Builtin.nextslicecap need cap<=3*need:=by
 unfold Builtin.nextslicecap;split
 ·omega
 ·split
  ·omega
  ·have:=lM need 4 cap
   omega
def A5 (w:World):World:={ w with drawn:=w.drawn+1 }
theorem run_append_grow {P:Program} {w:World} {t u elem:TypeId} {d:TypeDesc} {i:TypeInfo} {base:Option Addr} {sLen sCap n:Nat} {x zv:Value} {us os:List Value} (T:TypeId) (ts:List TypeId)
  (ht:P.underlying t=some (.slice elem)) (hi:P.info? elem=some i) (hu:P.underlying u=some d) (hd:∀ k,d≠.int k)
  (hn:(Builtin.lenOf x).run P w=.ok n w) (hf:(Builtin.firstCells i.size n x).run P (A5 w)=.ok (List.toArray us) (A5 w))
  (ho:(Builtin.firstCells i.size sLen (.slice base sLen sCap)).run P (A5 w)=.ok (List.toArray os) (A5 w)) (hz:i.zero=some zv)
  (hroom:sCap<sLen+n) (NF:(sLen+n)*i.bytes<=2 ^ 45) (MA:sLen+n<=2 ^ 45) :
  ∃ cap rest,sLen+n<=cap/\rest.length=(cap-(sLen+n))*zv.cells.size /\
   (Builtin.append_ (List.toArray (t::u::ts)) T #[.slice base sLen sCap,x]).run P w=.ok (.slice (some ⟨w.heap.size,0,none⟩) (sLen+n) cap) (CO (A5 w) (os++us++rest) elem):=by
 have hcap:¬ (2 ^ 48<Builtin.nextslicecap (sLen+n) sCap*i.bytes):=by
  have:=nextslicecap_le (sLen+n) sCap hroom;have:=CB i.bytes this;rw[Ra] at this;omega
 have AHR:¬ (IntKind.i64.max<((sLen:Int)+(n:Int))):=by
  have:IntKind.i64.max=9223372036854775807:=rfl;rw[this];omega
 have hzero:(zeroValue elem).run P (A5 w)=.ok zv (A5 w):=by simp[zeroValue,run_typeInfo hi,hz]
 refine⟨(sLen+n)+w.tape w.drawn (.appendCap (sLen+n) sCap elem) % (2 ^ 63-(sLen+n)),(Builtin.zeroCells zv.cells ((sLen+n)+w.tape w.drawn (.appendCap (sLen+n) sCap elem) % (2 ^ 63-(sLen+n))-(sLen+n))).toList,DT _ _,?_,?_⟩
 ·simp[Builtin.zeroCells]
 ·simp only[Builtin.append_]
  simp[run_underlying ht,run_sizeOf hi,run_underlying hu,hn,run_typeInfo hi,Question.forced,Question.cut];rw[if_neg (by omega),if_neg (by intro h; exact AHR h.1),if_neg hcap];have hf':=hf;have ho':=ho;have hzero':=hzero;unfold A5 at hf' ho' hzero';simp[ho',hf',hzero',newRow,CO,A5];congr 2;apply D9;simp
theorem Inv.drew {E:Env} {L:A0} {g:AH} {w:World} {s:AK} (h:Inv E g w s):Ext L g w g (A5 w)/\Inv E g (A5 w) s:=by
 have ext:Ext L g w g (A5 w):=
  ⟨rfl,rfl,rfl,AL _,fun _ _ h=>h,fun _ _ _=>rfl,fun _ _ h=>.inl h,fun _ h=>h,fun _ _ _ _=>rfl,fun _ l h=>⟨l,h,.inl rfl⟩,fun _ _ h _=>⟨h,rfl⟩,
   fun _ _ h _=>⟨h,rfl,fun _ h=>h⟩,fun _ _ _ _ _=>⟨rfl,fun _ h=>h⟩,fun _ _ h=>h,fun _ _ _=>⟨fun _=>rfl,fun _ h=>h⟩,fun id _ h _=>⟨id,h⟩,fun id _ h _=>⟨id,h⟩,fun _ l h _=>⟨l,h,rfl⟩,fun _ h=>h⟩
 refine⟨ext,?_⟩
 exact { h with
  blk:=fun id b hb=>by
   obtain⟨cs,vs,e,h1,h2,h3,h4⟩:=h.blk id b hb;exact⟨cs,vs,e,h1,h2,h3,h4.mono ext⟩
  Ey:=fun gl row hr j c hj=>by
   obtain⟨v,h1,h2,h3⟩:=h.Ey gl row hr j c hj;exact⟨v,h1,h2,h3.mono ext.mono ext.cell⟩
  C3:=fun gl row hr=>by
   obtain⟨h1,h2⟩:=h.C3 gl row hr;exact⟨h1,h2⟩ }
def AH.GX (g:AH) (t:Nat) (l:Pe):AH:=
 {g with tok:=fun k=>if k=t then some l else g.tok k,I:=fun b o=>g.I b o\/(b=l.b/\o<l.n*l.sz) }
theorem Inv.ZJ {E:Env} {L:A0} {g:AH} {w:World} {s:AK} (h:Inv E g w s) {t cap sz n:Nat} {vs:List Value} {e:TypeId} {ts':List (Nat×Nat)}
  (hv:vs.length=cap*sz) (hn:n<=cap) (hsz:sz≠0) (oK:Dd E.P e=some sz)
  (ht:(t=s.ts.length/\ts'=s.ts++[(n,e)])\/(∃ l,g.tok t=some l/\l.n<n/\L.rt<=t/\ts'=s.ts.set t (n,e))) :
  Ext L g w (g.GX t ⟨w.heap.size,cap,sz,n,e⟩) (CO w vs e)/\Inv E (g.GX t ⟨w.heap.size,cap,sz,n,e⟩) (CO w vs e) { s with ts:=ts' }:=by
 have hs:(CO w vs e).heap.size=w.heap.size+1:=by simp[CO]
 have hnone:∀ k l,g.tok k=some l->k<s.ts.length:=fun k l hl=>Bl (h.F7 k l hl)
 have Ir:∀ k,k≠t->(g.GX t ⟨w.heap.size,cap,sz,n,e⟩).tok k=g.tok k:=fun k hk=>by simp[AH.GX,hk]
 have HY:(g.GX t ⟨w.heap.size,cap,sz,n,e⟩).tok t=some ⟨w.heap.size,cap,sz,n,e⟩:=by simp[AH.GX]
 have hts:∀ k,k≠t->ts'[k]?=s.ts[k]?\/(k>=s.ts.length/\ts'[k]?=none):=by
  intro k hk;rcases ht with ⟨rfl,rfl⟩|⟨l,_,_,_,rfl⟩
  ·rcases CU k s.ts.length with x|x
   ·exact .inl (BA x)
   ·exact .inr ⟨x,Ea (by simp; omega)⟩
  ·exact .inl (Cd (Ce hk))
 have htt:ts'[t]?=some (n,e):=by
  rcases ht with ⟨rfl,rfl⟩|⟨l,hl,_,_,rfl⟩
  ·simp
  ·have:=hnone t l hl; simp[this]
 have inv:∀ k l,(g.GX t ⟨w.heap.size,cap,sz,n,e⟩).tok k=some l->(k=t/\l=⟨w.heap.size,cap,sz,n,e⟩)\/(k≠t/\g.tok k=some l):=fun k l hl=>by
  by_cases hk:k=t
  ·subst hk; rw[HY] at hl; simp at hl; exact .inl ⟨rfl,hl.symm⟩
  ·rw[Ir k hk] at hl; exact .inr ⟨hk,hl⟩
 have ext:Ext L g w (g.GX t ⟨w.heap.size,cap,sz,n,e⟩) (CO w vs e):={
  os:=rfl,tape:=rfl,output:=rfl,size:=by rw[hs]; exact Mj _
  mono:=fun _ _ hi=>.inl hi
  cell:=fun k o hi=>Bn (Aw (h.Il k o hi)) o
  blk:=fun _ _ hb=>.inl hb
  dead:=fun _ hd=>hd
  shape:=fun id b hb _=>DC (Aw (h.C4 hb))
  tok:=fun k l hl=>by
   by_cases hk:k=t
   ·subst hk
    refine⟨_,HY,.inr ?_⟩;rcases ht with ⟨rfl,_⟩|⟨l',hl',hlt,_,_⟩
    ·have:=hnone _ l hl; omega
    ·rw[hl] at hl'; simp at hl'; subst hl'; exact hlt
   ·exact⟨l,by rw[Ir k hk]; exact hl,.inl rfl⟩
  Fa:=fun id b hb _=>⟨hb,Aw (h.C4 hb)⟩
  FI:=fun k l hl hlt=>by
   have hk:k≠t:=fun e=>by
    subst e;rcases ht with ⟨rfl,_⟩|⟨l',_,_,hr,_⟩
    ·have:=hnone _ l hl; omega
    ·omega
   exact⟨by rw[Ir k hk]; exact hl,Aw (h.EE hl),fun o ho=>ho.resolve_right (fun e=>by have:=h.EE hl; simp only at e; omega)⟩
  out:=fun k hk _ _ _=>⟨Aw hk,fun o ho=>ho.resolve_right (fun e=>by simp only at e; omega)⟩
  mp:=fun _ _ hb=>hb
  FJ:=fun _ b' hb'=>⟨fun _=>Aw (h.I9 hb'),fun o ho=>ho.resolve_right (fun e=>by have:=h.I9 hb'; simp only at e; omega)⟩
  JT:=fun id' _ hb _=>⟨id',hb⟩
  Gk:=fun id _ hb _=>⟨id,hb⟩
  C1:=fun _ h=>h
  JU:=fun k l hl hlt=>by
   rcases inv k l hl with ⟨_,rfl⟩|⟨_,hl⟩
   ·simp only at hlt; omega
   ·exact⟨l,hl,rfl⟩ }
 refine⟨ext,?_⟩
 exact {
  EB:=h.EB
  DL:=h.DL
  DM:=h.DM
  blk:=fun id b hb=>by
   obtain⟨cs',us,e',h1,h2,h3,h4⟩:=h.blk id b hb;exact⟨cs',us,e',h1,by rw[Aw (h.C4 hb)]; exact h2,h3,h4.mono ext⟩
  FT:=fun id b o hb hi=>by
   rcases hi with hi|hi
   ·exact h.FT id b o hb hi
   ·have:=h.C4 hb; simp only at hi; omega
  F6:=fun k m q hk=>by
   by_cases e:k=t
   ·subst e; rw[htt] at hk; simp at hk; exact⟨_,HY,hk.1,hk.2⟩
   ·rw[Ir k e]
    rcases hts k e with x|⟨_,x⟩
    ·rw[x] at hk; exact h.F6 k m q hk
    ·rw[x] at hk; simp at hk
  F7:=fun k l hl=>by
   rcases inv k l hl with ⟨rfl,rfl⟩|⟨hk,hl⟩
   ·exact htt
   ·rcases hts k hk with x|⟨x,_⟩
    ·rw[x]; exact h.F7 k l hl
    ·have:=hnone k l hl; omega
  tok:=fun k l hl=>by
   rcases inv k l hl with ⟨_,rfl⟩|⟨_,hl⟩
   ·exact⟨vs,(0,0),by rw[Bm,if_pos rfl],hv,hn,hsz,AM _,oK⟩
   ·obtain⟨us,e',h1,h2⟩:=h.tok k l hl
    exact⟨us,e',by rw[Aw (h.EE hl)]; exact h1,h2⟩
  GV:=fun k l o hl hle hi=>by
   rcases inv k l hl with ⟨_,rfl⟩|⟨_,hl⟩
   ·rcases hi with hi|hi
    ·have:=h.Il _ o hi; simp only at this; omega
    ·simp only at hi hle; omega
   ·rcases hi with hi|hi
    ·exact h.GV k l o hl hle hi
    ·have:=h.EE hl; simp only at hi; omega
  ET:=h.ET
  Fi:=fun k k' l l' hl hl' he=>by
   rcases inv k l hl with ⟨e1,rfl⟩|⟨_,hl⟩
   ·rcases inv k' l' hl' with ⟨e2,_⟩|⟨_,hl'⟩
    ·rw[e1,e2]
    ·have:=h.EE hl'; simp only at he; omega
   ·rcases inv k' l' hl' with ⟨_,rfl⟩|⟨_,hl'⟩
    ·have:=h.EE hl; simp only at he; omega
    ·exact h.Fi k k' l l' hl hl' he
  Cp:=fun id b k l hb hl=>by
   rcases inv k l hl with ⟨_,rfl⟩|⟨_,hl⟩
   ·have:=h.C4 hb; simp only; omega
   ·exact h.Cp id b k l hb hl
  Il:=fun k o hi=>by
   rw[hs];rcases hi with hi|hi
   ·have:=h.Il k o hi; omega
   ·simp only at hi; omega
  EG:=h.EG
  mp:=h.Hj (fun _ _ _=>rfl) (fun _ _ hb'=>Aw (h.I9 hb'))
  KM:=h.KM
  GU:=h.GU
  DV:=h.DV
  Ey:=fun gl row hr j c hj=>by
   obtain⟨v,h1,h2,h3⟩:=h.Ey gl row hr j c hj;exact⟨v,.inl h1,by rw[ext.cell _ _ h1]; exact h2,h3.mono ext.mono ext.cell⟩
  C3:=fun gl row hr=>by
   obtain⟨h1,h2⟩:=h.C3 gl row hr;exact⟨.inl h1,by rw[ext.cell _ _ h1]; exact h2⟩ }
theorem Ef (us:List Value):∀ (vs:List Value) (k q:Nat),(q<k\/k+us.length<=q)->(Bt vs k us)[q]?=vs[q]?:=by
 induction us with
 | nil=>intro vs k q _; rfl
 | cons u us ih=>
  intro vs k q hq;simp only[A3] at hq;rw[Bt,ih _ _ _ (by omega),Cd (by omega)]
theorem FK (us:List Value):∀ (vs:List Value) (k q:Nat) (u:Value),us[q]?=some u->k+us.length<=vs.length->(Bt vs k us)[k+q]?=some u:=by
 induction us with
 | nil=>intro vs k q u h _; simp at h
 | cons x us ih=>
  intro vs k q u h hle;simp only[A3] at hle;cases q with
  | zero=>
   simp at h; subst h;rw[Bt,Ef us _ _ _ (.inl (by omega)),Dq,EA (by omega)]
  | succ q=>
   simp at h;rw[Bt,show k+(q+1)=k+1+q by omega];exact ih _ _ _ _ h (by simp; omega)
theorem Inv.AAR {E:Env} {L:A0} {g:AH} {w:World} {s:AK} (h:Inv E g w s) {t n:Nat} {l:Pe} {vs us:List Value} {fz:Nat×Nat} (hl:g.tok t=some l)
  (hh:w.heap[l.b]?=some (.cells ⟨vs⟩ l.e fz)) (hlt:l.n<n) (hle:n<=l.cap) (Fz:L.rt<=t) :
  Ext L g w (g.GX t { l with n:=n }) (A2 w l.b (Bt vs (l.n*l.sz) us) l.e fz)/\Inv E (g.GX t { l with n:=n }) (A2 w l.b (Bt vs (l.n*l.sz) us) l.e fz) { s with ts:=s.ts.set t (n,l.e) }:=by
 have hb:=h.EE hl;have hne:∀ k,k≠l.b->(A2 w l.b (Bt vs (l.n*l.sz) us) l.e fz).heap[k]?=w.heap[k]?:=fun k hk=>by rw[BR,if_neg (fun h=>hk h.symm)]
 have ZG:(A2 w l.b (Bt vs (l.n*l.sz) us) l.e fz).heap[l.b]?=some (.cells ⟨Bt vs (l.n*l.sz) us⟩ l.e fz):=by rw[BR,if_pos rfl,if_pos hb]
 have hs:(A2 w l.b (Bt vs (l.n*l.sz) us) l.e fz).heap.size=w.heap.size:=by simp[A2]
 obtain⟨vs0,fz0,hh0,hlen,hn0,hsz,AHS,oK⟩:=h.tok t l hl;have hvs:vs0=vs/\fz0=fz:=by rw[hh] at hh0; simp at hh0; exact⟨hh0.1.symm,hh0.2.symm⟩
 rw[hvs.1] at hlen;rw[hvs.2] at AHS;have hnt:t<s.ts.length:=Bl (h.F7 t l hl);have Ir:∀ k,k≠t->(g.GX t { l with n:=n }).tok k=g.tok k:=fun k hk=>by simp[AH.GX,hk]
 have HY:(g.GX t { l with n:=n }).tok t=some { l with n:=n }:=by simp[AH.GX]
 have inv:∀ k l',(g.GX t { l with n:=n }).tok k=some l'->(k=t/\l'={ l with n:=n })\/(k≠t/\g.tok k=some l'):=fun k l' hl'=>by
  by_cases hk:k=t
  ·subst hk; rw[HY] at hl'; simp at hl'; exact .inl ⟨rfl,hl'.symm⟩
  ·rw[Ir k hk] at hl'; exact .inr ⟨hk,hl'⟩
 have ADQ:∀ b o,g.I b o->(A2 w l.b (Bt vs (l.n*l.sz) us) l.e fz).cell? ⟨b,o,none⟩=w.cell? ⟨b,o,none⟩:=fun b o hi=>by
  by_cases hk:b=l.b
  ·subst hk
   have:o<l.n*l.sz:=by
    rcases CU o (l.n*l.sz) with x|x
    ·exact x
    ·exact absurd hi (h.GV t l o hl x)
   rw[Bd ZG,Bd hh,Ef us vs _ _ (.inl this)]
  ·exact Bn (hne b hk) o
 have ext:Ext L g w (g.GX t { l with n:=n }) (A2 w l.b (Bt vs (l.n*l.sz) us) l.e fz):={
  os:=rfl,tape:=rfl,output:=rfl,size:=by rw[hs]; exact AL _
  mono:=fun _ _ hi=>.inl hi
  cell:=ADQ
  blk:=fun _ _ hb=>.inl hb
  dead:=fun _ hd=>hd
  shape:=fun id b hb _=>DC (hne b (h.Cp id b t l hb hl))
  tok:=fun k l' hl'=>by
   by_cases hk:k=t
   ·subst hk
    rw[hl] at hl'; simp at hl'; subst hl';exact⟨_,HY,.inr hlt⟩
   ·exact⟨l',by rw[Ir k hk]; exact hl',.inl rfl⟩
  Fa:=fun id b hb _=>⟨hb,hne b (h.Cp id b t l hb hl)⟩
  FI:=fun k l' hl' hk'=>by
   have hk:k≠t:=fun e=>by omega
   have VM:l'.b≠l.b:=fun e=>hk (h.Fi k t l' l hl' hl e)
   exact⟨by rw[Ir k hk]; exact hl',hne _ VM,fun o ho=>ho.resolve_right (fun e=>VM e.1)⟩
  out:=fun k hk _ h2 _=>⟨hne k (fun e=>h2 t l hl e.symm),fun o ho=>ho.resolve_right (fun e=>h2 t l hl e.1.symm)⟩
  mp:=fun _ _ hb=>hb
  FJ:=fun _ b' hb'=>⟨fun _=>hne b' (h.mpT hb' hl),fun o ho=>ho.resolve_right (fun e=>h.mpT hb' hl e.1)⟩
  JT:=fun id' _ hb _=>⟨id',hb⟩
  Gk:=fun id _ hb _=>⟨id,hb⟩
  C1:=fun _ h=>h
  JU:=fun k l' hl' _=>by
   rcases inv k l' hl' with ⟨rfl,rfl⟩|⟨_,hl'⟩
   ·exact⟨l,hl,rfl⟩
   ·exact⟨l',hl',rfl⟩ }
 refine⟨ext,?_⟩
 exact {
  EB:=h.EB
  DL:=h.DL
  DM:=h.DM
  blk:=fun id b hb=>by
   obtain⟨cs',us',e',h1,h2,h3,h4⟩:=h.blk id b hb;exact⟨cs',us',e',h1,by rw[hne b (h.Cp id b t l hb hl)]; exact h2,h3,h4.mono ext⟩
  FT:=fun id b o hb hi=>by
   rcases hi with hi|hi
   ·exact h.FT id b o hb hi
   ·exact h.Cp id b t l hb hl hi.1
  F6:=fun k m q hk=>by
   by_cases e:k=t
   ·subst e; simp[hnt] at hk; exact⟨_,HY,hk.1,hk.2⟩
   ·rw[Ir k e]; simp only[Cd (Ce e)] at hk; exact h.F6 k m q hk
  F7:=fun k l' hl'=>by
   rcases inv k l' hl' with ⟨rfl,rfl⟩|⟨hk,hl'⟩
   ·simp[hnt]
   ·simp only[Cd (Ce hk)]; exact h.F7 k l' hl'
  tok:=fun k l' hl'=>by
   rcases inv k l' hl' with ⟨_,rfl⟩|⟨hk,hl'⟩
   ·exact⟨_,fz,ZG,by rw[BJ]; exact hlen,hle,hsz,Bh AHS (CB _ (Nat.le_of_lt hlt)),oK⟩
   ·obtain⟨us',e',h1,h2⟩:=h.tok k l' hl'
    exact⟨us',e',by rw[hne _ (fun e=>hk (h.Fi k t l' l hl' hl e))]; exact h1,h2⟩
  GV:=fun k l' o hl' hle' hi=>by
   rcases inv k l' hl' with ⟨_,rfl⟩|⟨hk,hl'⟩
   ·rcases hi with hi|hi
    ·exact h.GV t l o hl (by simp only at hle'; have:=CB l.sz (Nat.le_of_lt hlt); omega) hi
    ·simp only at hi hle'; omega
   ·rcases hi with hi|hi
    ·exact h.GV k l' o hl' hle' hi
    ·exact hk (h.Fi k t l' l hl' hl hi.1)
  ET:=h.ET
  Fi:=fun k k' l1 l2 h1 h2 he=>by
   rcases inv k l1 h1 with ⟨e1,rfl⟩|⟨_,h1⟩
   ·rcases inv k' l2 h2 with ⟨e2,_⟩|⟨_,h2⟩
    ·rw[e1,e2]
    ·rw[e1]; exact h.Fi t k' l l2 hl h2 he
   ·rcases inv k' l2 h2 with ⟨e2,rfl⟩|⟨_,h2⟩
    ·rw[e2]; exact h.Fi k t l1 l h1 hl he
    ·exact h.Fi k k' l1 l2 h1 h2 he
  Cp:=fun id b k l' hb hl'=>by
   rcases inv k l' hl' with ⟨_,rfl⟩|⟨_,hl'⟩
   ·exact h.Cp id b t l hb hl
   ·exact h.Cp id b k l' hb hl'
  Il:=fun k o hi=>by
   rw[hs];rcases hi with hi|hi
   ·exact h.Il k o hi
   ·rw[hi.1]; exact hb
  EG:=h.EG
  mp:=h.Hj (fun _ _ _=>rfl) (fun _ b' hb'=>hne b' (h.mpT hb' hl))
  KM:=h.KM
  GU:=h.GU
  DV:=h.DV
  Ey:=fun gl row hr j c hj=>by
   obtain⟨v,h1,h2,h3⟩:=h.Ey gl row hr j c hj;exact⟨v,.inl h1,by rw[ext.cell _ _ h1]; exact h2,h3.mono ext.mono ext.cell⟩
  C3:=fun gl row hr=>by
   obtain⟨h1,h2⟩:=h.C3 gl row hr;exact⟨.inl h1,by rw[ext.cell _ _ h1]; exact h2⟩ }
def AH.kill (g:AH) (id:Nat):AH:=
 {g with blk:=fun i=>if i=id then none else g.blk i,dead:=fun i=>g.dead i\/i=id,
         hd:=fun i (hi:g.dead i\/i=id)=>(if e:i=id then if_pos e else(if_neg e).trans (g.hd i (hi.resolve_right e)):(if i=id then none else g.blk i)=none) }
theorem Inv.kill {E:Env} {L:A0} {g:AH} {w:World} {s:AK} (h:Inv E g w s) {id b:Nat} (hb:g.blk id=some b) (hro:L.ro<=id) :
  Ext L g w (g.kill id) w/\Inv E (g.kill id) w { s with bs:=s.bs.set id [] }:=by
 have inv:∀ i b',(g.kill id).blk i=some b'->i≠id/\g.blk i=some b':=fun i b' hi=>by
  simp only[AH.kill] at hi;split at hi
  ·simp at hi
  ·exact⟨by assumption,hi⟩
 have ext:Ext L g w (g.kill id) w:={
  os:=rfl,tape:=rfl,output:=rfl,size:=AL _
  mono:=fun _ _ hi=>hi
  cell:=fun _ _ _=>rfl
  blk:=fun i b' hi=>by
   by_cases e:i=id
   ·exact .inr (.inr e)
   ·exact .inl (by simp[AH.kill,e,hi])
  dead:=fun _ hd=>.inl hd
  shape:=fun _ _ _ _=>rfl
  tok:=fun _ l hl=>⟨l,hl,.inl rfl⟩
  Fa:=fun i b' hi hlt=>⟨by have:i≠id:=by omega
                           simp[AH.kill,this,hi],rfl⟩
  FI:=fun _ _ hl _=>⟨hl,rfl,fun _ ho=>ho⟩
  out:=fun _ _ _ _ _=>⟨rfl,fun _ ho=>ho⟩
  mp:=fun _ _ hb=>hb
  FJ:=fun _ _ _=>⟨fun _=>rfl,fun _ ho=>ho⟩
  JT:=fun id' _ hb _=>⟨id',hb⟩
  Gk:=fun i b' hi _=>⟨i,(inv i b' hi).2⟩
  C1:=fun _ h=>h
  JU:=fun _ l hl _=>⟨l,hl,rfl⟩ }
 refine⟨ext,?_⟩
 exact {
  EB:=fun i b' hi=>by simpa using h.EB i b' (inv i b' hi).2
  DL:=fun i hd=>by
   rcases hd with hd|rfl
   ·simpa using h.DL i hd
   ·simpa using h.EB _ b hb
  DM:=fun i hd=>by
   by_cases e:i=id
   ·subst e; simp[h.EB _ b hb]
   ·rcases hd with hd|hd
    ·simp only[Cd (Ce e)]; exact h.DM i hd
    ·exact absurd hd e
  blk:=fun i b' hi=>by
   obtain⟨e,hi⟩:=inv i b' hi;obtain⟨cs,vs,e',h1,h2,h3,h4⟩:=h.blk i b' hi;exact⟨cs,vs,e',by simp only[Cd (Ce e)]; exact h1,h2,h3,h4.mono ext⟩
  FT:=fun i b' o hi=>h.FT i b' o (inv i b' hi).2
  F6:=h.F6
  F7:=h.F7
  tok:=h.tok
  GV:=h.GV
  ET:=fun i j b' hi hj=>h.ET i j b' (inv i b' hi).2 (inv j b' hj).2
  Fi:=h.Fi
  Cp:=fun i b' t l hi hl=>h.Cp i b' t l (inv i b' hi).2 hl
  Il:=h.Il
  EG:=fun i hi=>by
   by_cases e:i=id
   ·exact .inr (.inl (.inr e))
   ·rcases h.EG i (by simpa using hi) with ⟨b',hb'⟩|q|q
    ·exact .inl ⟨b',(if_neg e).trans hb'⟩
    ·exact .inr (.inl (.inl q))
    ·exact .inr (.inr q)
  mp:=h.Hj (fun _ _ hb'=>Cd (h.lI hb hb')) (fun _ _ _=>rfl)
  KM:=fun i b' hb'=>by
   obtain⟨a1,a2,a3⟩:=h.KM i b' hb';have hne:i≠id:=Ce (h.lI hb hb');exact⟨(if_neg hne).trans a1,fun hd=>hd.elim a2 hne,a3⟩
  GU:=h.GU
  DV:=fun i hp=>by
   obtain⟨a,b,c⟩:=h.DV i hp;have hne:i≠id:=fun e=>by rw[e,hb] at b; simp at b
   exact⟨by simpa using a,(if_neg hne).trans b,fun hd=>hd.elim c hne⟩
  Ey:=fun gl row hr j c hj=>by
   obtain⟨v,h1,h2,h3⟩:=h.Ey gl row hr j c hj;exact⟨v,h1,h2,h3.mono ext.mono ext.cell⟩
  C3:=fun gl row hr=>by
   obtain⟨h1,h2⟩:=h.C3 gl row hr;exact⟨h1,h2⟩ }
theorem Inv.SP {E:Env} {g:AH} {w:World} {s:AK} (h:Inv E g w s) {id b:Nat} (hb:g.blk id=some b):¬ (g.kill id).dead s.bs.length:=fun hd=>by
 rcases hd with hd|hd
 ·have:=h.DL _ hd; omega
 ·have:=h.EB id b hb; omega
theorem Inv.oM {E:Env} {L:A0} {g:AH} {w:World} {s:AK} (h:Inv E g w s) {id b:Nat} {cs':List AV} {vs vs':List Value} {e:TypeId}
  (hb:g.blk id=some b) (hh:w.heap[b]?=some (.cells ⟨vs⟩ e (0,0))) (hvl:vs'.length=vs.length) (hro:L.ro<=id) (hle:cs'.length<=vs'.length) (hl:VL g w cs' (vs'.take cs'.length)) :
  Ext L g w ((g.kill id).F1 s.bs.length b (h.SP hb)) (A2 w b vs' e)/\Inv E ((g.kill id).F1 s.bs.length b (h.SP hb)) (A2 w b vs' e) { s with bs:=s.bs.set id []++[cs'] }:=by
 have hlt:=h.C4 hb;have ANS:=h.EB id b hb;have hne:∀ k,k≠b->(A2 w b vs' e).heap[k]?=w.heap[k]?:=fun k hk=>by rw[BR,if_neg (fun h=>hk h.symm)]
 have ZG:(A2 w b vs' e).heap[b]?=some (.cells ⟨vs'⟩ e (0,0)):=by rw[BR,if_pos rfl,if_pos hlt]
 have hsz:(A2 w b vs' e).heap.size=w.heap.size:=by simp[A2]
 have inv:∀ i b',((g.kill id).F1 s.bs.length b (h.SP hb)).blk i=some b'->(i=s.bs.length/\b'=b)\/(i≠id/\i≠s.bs.length/\g.blk i=some b'):=fun i b' hi=>by
  simp only[AH.F1,AH.kill] at hi;split at hi
  ·simp at hi; exact .inl ⟨by assumption,hi.symm⟩
  ·split at hi
   ·simp at hi
   ·exact .inr ⟨by assumption,by assumption,hi⟩
 have keep:∀ i b',g.blk i=some b'->i≠id->((g.kill id).F1 s.bs.length b (h.SP hb)).blk i=some b':=fun i b' hi e=>by
  have:=h.EB i b' hi;have e2:i≠s.bs.length:=by omega
  simp[AH.F1,AH.kill,e,e2,hi]
 have ext:Ext L g w ((g.kill id).F1 s.bs.length b (h.SP hb)) (A2 w b vs' e):={
  os:=rfl,tape:=rfl,output:=rfl,size:=by rw[hsz]; exact AL _
  mono:=fun _ _ hi=>hi
  cell:=fun k o hi=>Bn (hne k (fun hk=>h.FT id b o hb (hk ▸ hi))) o
  blk:=fun i b' hi=>by
   by_cases e:i=id
   ·exact .inr (.inr e)
   ·exact .inl (keep i b' hi e)
  dead:=fun _ hd=>.inl hd
  shape:=fun i b' hi hi'=>by
   by_cases hk:b'=b
   ·subst hk; rw[Be ZG,Be hh,hvl]
   ·exact DC (hne b' hk)
  tok:=fun _ l hl=>⟨l,hl,.inl rfl⟩
  Fa:=fun i b' hi hlt'=>by
   have e:i≠id:=by omega
   exact⟨keep i b' hi e,hne b' (fun hk=>e (h.ET i id b' hi (hk ▸ hb)))⟩
  FI:=fun t l hl _=>⟨hl,hne _ (fun hk=>h.Cp id b t l hb hl hk.symm),fun _ ho=>ho⟩
  out:=fun k _ h1 _ _=>⟨hne k (fun hk=>h1 id (hk ▸ hb)),fun _ ho=>ho⟩
  mp:=fun _ _ hb=>hb
  FJ:=fun _ b' hb'=>⟨fun _=>hne b' (fun hk=>h.yD hb' (hk ▸ hb)),fun _ ho=>ho⟩
  JT:=fun id' _ hb _=>⟨id',hb⟩
  Gk:=fun i b' hi _=>by
   rcases inv i b' hi with ⟨_,rfl⟩|⟨_,_,hi⟩
   ·exact⟨id,hb⟩
   ·exact⟨i,hi⟩
  C1:=fun _ h=>h
  JU:=fun _ l hl _=>⟨l,hl,rfl⟩ }
 refine⟨ext,?_⟩
 exact {
  EB:=fun i b' hi=>by
   rcases inv i b' hi with ⟨rfl,_⟩|⟨_,_,hi⟩
   ·simp
   ·have:=h.EB i b' hi; simp; omega
  DL:=fun i hd=>by
   rcases hd with hd|rfl
   ·have:=h.DL i hd; simp; omega
   ·simp; omega
  DM:=fun i hd=>by
   have hlt:i<s.bs.length:=by
    rcases hd with hd|rfl
    ·exact h.DL i hd
    ·exact ANS
   rw[BA (by simpa using hlt)]
   by_cases e:i=id
   ·subst e; simp[hlt]
   ·rcases hd with hd|hd
    ·simp only[Cd (Ce e)]; exact h.DM i hd
    ·exact absurd hd e
  blk:=fun i b' hi=>by
   rcases inv i b' hi with ⟨rfl,rfl⟩|⟨e1,_,hi⟩
   ·exact⟨cs',vs',e,by rw[CV (by simp)]; simp,ZG,hle,hl.mono ext⟩
   ·obtain⟨cs,us,e',h1,h2,h3,h4⟩:=h.blk i b' hi
    exact⟨cs,us,e',by rw[BA (by simpa using h.EB i b' hi)]; simp only[Cd (Ce e1)]; exact h1,
     by rw[hne b' (fun hk=>e1 (h.ET i id b' hi (hk ▸ hb)))]; exact h2,h3,h4.mono ext⟩
  FT:=fun i b' o hi=>by
   rcases inv i b' hi with ⟨_,rfl⟩|⟨_,_,hi⟩
   ·exact h.FT id _ o hb
   ·exact h.FT i b' o hi
  F6:=h.F6
  F7:=h.F7
  tok:=fun t l hl=>by
   obtain⟨us,e',h1,h2⟩:=h.tok t l hl;exact⟨us,e',by rw[hne _ (fun hk=>h.Cp id b t l hb hl hk.symm)]; exact h1,h2⟩
  GV:=h.GV
  ET:=fun i j b' hi hj=>by
   rcases inv i b' hi with ⟨e1,e2⟩|⟨e1,e2,hi⟩
   ·rcases inv j b' hj with ⟨e3,_⟩|⟨e3,e4,hj'⟩
    ·rw[e1,e3]
    ·exact absurd (h.ET j id b' hj' (by rw[hb,e2])) e3
   ·rcases inv j b' hj with ⟨e3,e4⟩|⟨e3,e4,hj'⟩
    ·exact absurd (h.ET i id b' hi (by rw[hb,e4])) e1
    ·exact h.ET i j b' hi hj'
  Fi:=h.Fi
  Cp:=fun i b' t l hi hl=>by
   rcases inv i b' hi with ⟨_,rfl⟩|⟨_,_,hi⟩
   ·exact h.Cp id _ t l hb hl
   ·exact h.Cp i b' t l hi hl
  Il:=fun k o hi=>by rw[hsz]; exact h.Il k o hi
  EG:=fun i hi=>by
   by_cases e:i=s.bs.length
   ·exact .inl ⟨_,if_pos e⟩
   by_cases e2:i=id
   ·exact .inr (.inl (.inr e2))
   ·rcases h.EG i (by simp at hi; omega) with ⟨b',hb'⟩|q|q
    ·exact .inl ⟨b',(if_neg e).trans ((if_neg e2).trans hb')⟩
    ·exact .inr (.inl (.inl q))
    ·exact .inr (.inr q)
  mp:=h.Hj (fun i b' hb'=>by
    have hlt:=h.lH hb';rw[BA (by simpa using hlt)];exact Cd (h.lI hb hb')) (fun _ b' hb'=>hne b' (fun hk=>h.yD hb' (hk ▸ hb)))
  KM:=fun i b' hb'=>by
   obtain⟨a1,a2,a3⟩:=h.KM i b' hb';have hne:i≠id:=Ce (h.lI hb hb');have hlt:=h.lH hb';exact⟨(if_neg (Wy hlt)).trans ((if_neg hne).trans a1),fun hd=>hd.elim a2 hne,a3⟩
  GU:=h.GU
  DV:=fun i hp=>by
   obtain⟨a,b,c⟩:=h.DV i hp;have hne:i≠id:=fun e=>by rw[e,hb] at b; simp at b
   exact⟨by simp; omega,(if_neg (by omega)).trans ((if_neg hne).trans b),fun hd=>hd.elim c hne⟩
  Ey:=fun gl row hr j c hj=>by
   obtain⟨v,h1,h2,h3⟩:=h.Ey gl row hr j c hj;exact⟨v,h1,by rw[ext.cell _ _ h1]; exact h2,h3.mono ext.mono ext.cell⟩
  C3:=fun gl row hr=>by
   obtain⟨h1,h2⟩:=h.C3 gl row hr;exact⟨h1,by rw[ext.cell _ _ h1]; exact h2⟩ }
theorem Flat.AHT {I:Nat->Nat->Prop} {w:World} {rows:List (List PV)} {k k':Nat} {us:List Value} (e:k=k') (h:Flat I w rows k us):Flat I w rows k' us:=by subst e; exact h
theorem G4 {g:AH} {w:World} {t n cap sz:Nat} {b:Nat} {e:TypeId} {rows:List (List PV)} {us:List Value} (hg:g.tok t=some ⟨b,cap,sz,n,e⟩) (hf:Flat g.I w rows sz us)
  (hn:rows.length=n) (hc:n<=cap) (hI:∀ o,o<n*sz->g.I b o) (hh:∀ q u,us[q]?=some u->w.cell? ⟨b,q,none⟩=some u) :
  V g w (.own t rows) (.slice (some ⟨b,0,none⟩) rows.length cap):=by
 have wN:=hf.dF (b:=b) (o:=0) (fun q hq=>by rw[CJ]; exact hI q (by rw[<-hn,<-hf.len]; exact hq)) (fun q u hq=>by
  rw[CJ]; exact hh q u hq)
 exact .own wN (by omega) hg (by simp only; omega) (fun _=>⟨rfl,rfl,rfl,rfl,rfl⟩)
theorem Kk (us vs:List Value) (k:Nat) (h:k+us.length<=vs.length):(Bt vs k us).take (k+us.length)=vs.take k++us:=by
 apply K8;intro q;rw[CT];split
 ·rename_i hq
  rcases CU q k with x|x
  ·rw[Ef us vs k q (.inl x),BA (by simp; omega),CT,if_pos x]
  ·obtain⟨j,rfl⟩:∃ j,q=k+j:=⟨q-k,by omega⟩
   have hj:j<us.length:=by omega
   rw[FK us vs k j us[j] (by simp[hj]) h,CV (by simp; omega)];simp only[DU];rw[show k+j-min k vs.length=j by omega];simp[hj]
 ·rename_i hq
  rw[Ea (by simp; omega)]
theorem ZK {P:Program} {w:World} (a:Option Addr) (n c:Nat):(Builtin.lenOf (.slice a n c)).run P w=.ok n w:=by simp[Builtin.lenOf]
theorem VL.one {g:AH} {w:World} {cs:List AV} {vs:List Value} (h:VL g w cs vs) (ho:cs.all Ar=true):∀ u∈vs,u.oneCell'=true:=by
 intro u hu;obtain⟨j,hj,rfl⟩:=OK.1 hu;have hj':j<cs.length:=by rw[h.len]; exact hj
 exact JV (h.at_ j cs[j] _ (by simp[hj']) (by simp)) (Bs.1 ho cs[j] (by simp))
theorem NU {E:Env} {L:A0} {g:AH} {w:World} {s s':AK} (hI:Inv E g w s) {t u T:TypeId} {ts:List TypeId} {d:TypeDesc} {x y v:AV} {xv yv:Value}
  (hx:V g w x xv) (hy:V g w y yv) (hu:E.P.underlying u=some d) (hd:∀ k,d≠.int k) (h:I5 E.P L s t x y=some (v,s')) :
  ∃ v' w' g',(Builtin.append_ (List.toArray (t::u::ts)) T #[xv,yv]).run E.P w=.ok v' w'/\V g' w' v v'/\Ext L g w g' w'/\Inv E g' w' s':=by
 unfold I5 at h;split at h
 ·rename_i elem ht
  split at h
  ·rename_i i hi
   split at h
   ·rename_i hz
    obtain⟨hz,hk⟩:=hz
    obtain⟨z,hz1,hz2⟩:∃ z,zeroOf E.P elem=some z/\z.length=i.size:=by
     cases hq:zeroOf E.P elem with
     | none=>simp[hq] at hz
     | some z=>simp[hq] at hz; exact⟨z,rfl,hz⟩
    obtain⟨i',zv,hi',iI,_,hzl⟩:=Dw (g:=g) (w:=w) hz1;have:i'=i:=by rw[hi] at hi'; simpa using hi'.symm
    subst this;have oK:Dd E.P elem=some i'.size:=by simp[Dd,hi]
    have hzs:zv.cells.size=i'.size:=by rw[<-DS,<-hzl.len]; exact hz2
    split at h
    ·-- nothing is appended
     rename_i hsrc;obtain⟨n,us,hn,Bu,wP,hvl⟩:=HN hI hy hk hsrc
     have hn0:n=0:=by
      rcases W0.1 Bu.symm with x|x
      ·exact x
      ·exact absurd x hk
     subst hn0;have iJ:us=[]:=hvl.Ee;subst iJ
     have key:∀ (base:Option Addr) (len cap:Nat),xv=.slice base len cap->len<=cap ->
       (Builtin.append_ (List.toArray (t::u::ts)) T #[xv,yv]).run E.P w=.ok xv w:=by
      intro base len cap e hle;subst e;rw[run_append_room T ts ht hi hu hd hn (wP w rfl) (by omega)];cases base <;> simp[storeCells]
     split at h
     ·rename_i id off len sz
      cases hal:Tel.alive s id with
      | false=>simp[hal] at h
      | true=>
       simp only[hal,AE,AY,Af] at h;obtain⟨rfl,rfl⟩:=h;refine⟨xv,w,g,?_,hx,Ext.refl _ _ _,hI⟩;cases hx with
       | I8 hd=>exact absurd hd (hI.alive hal)
       | ref _ hcap=>exact key _ _ _ rfl hcap
     ·split at h
      ·rename_i rows hrows
       simp only[AY,Af] at h;obtain⟨rfl,rfl⟩:=h;obtain⟨base,cap,b,o,sz,f,e,hcap,_⟩:=EC hx hrows;exact⟨xv,w,g,key _ _ _ e hcap,hx,Ext.refl _ _ _,hI⟩
      ·simp at h
    ·-- something is appended
     rename_i c cs hsrc;split at h
     ·rename_i hok
      obtain⟨n,us,hn,Bu,wP,hvl⟩:=HN hI hy hk hsrc;have hone:=hvl.one hok;have hdiv:(c::cs).length / i'.size=n:=by rw[Bu]; exact Rb _ (by omega)
      have hnp:0<n:=by
       rcases W4 n with x|x
       ·subst x; simp at Bu
       ·exact x
      have cn:us.length=n*i'.size:=by rw[<-hvl.len]; exact Bu
      simp only[hdiv] at h;split at h
      ·rename_i id off len sz
       split at h
       ·rename_i old hold
        split at h
        ·rename_i hc
         obtain⟨rfl,rfl,hlo,hal,NF,MA,hro⟩:=hc;simp only[AY,Af] at h;obtain⟨rfl,rfl⟩:=h;cases hx with
         | I8 hd=>exact absurd hd (hI.alive hal)
         | @ref _ _ _ _ b cap n' e F2 hcap hs hn'=>
          obtain⟨cs',vs,e',k1,k2,wM,k3⟩:=hI.blk id b F2;rw[hold] at k1; simp only[AY] at k1; subst k1;have hsh:vs.length=n':=by rw[Be k2] at hs; simp at hs; exact hs.2
          have k4:VL g w (old.take (len*i'.size)) (vs.take (len*i'.size)):=by
           have:=k3.take (len*i'.size);rw[Rc,Jy hlo] at this;exact this
          by_cases hroom:len+n<=cap
          ·have hbd:len*i'.size+us.length<=vs.length:=by
            have:=CB i'.size hroom;rw[CH] at this;omega
           have hst:=F8 (P:=E.P) (b:=b) (o:=len*i'.size) (e:=e') us 0 w vs hone k2 (by omega);have iK:(old.take (len*i'.size)).length=len*i'.size:=by rw[DU]; omega
           obtain⟨e1,e2⟩:=hI.oM (L:=L) (cs':=old.take (len*i'.size)++(c::cs)) (vs':=Bt vs (len*i'.size) us) F2 k2 (BJ _ _ _) hro
            (by rw[BJ,Ab,Bu,iK,<-cn]; exact hbd)
            (by rw[Ab,Bu,<-cn,iK,Kk us vs _ hbd]; exact k4.append hvl)
           refine⟨_,_,_,?_,V.ref (b:=b) (e:=e') (n:=n') ?_ hroom ?_ hn',e1,e2⟩
           ·rw[run_append_room T ts ht hi hu hd hn (wP w rfl) hroom]
            simp only[DW,CJ];rw[hst];rfl
           ·simp[AH.F1]
           ·rw[Be (by rw[BR,if_pos rfl,if_pos (hI.C4 F2)]),BJ,hsh]
          ·have oN:(vs.take (len*i'.size)).length=len*i'.size:=by rw[DU]; omega
           have iK:(old.take (len*i'.size)).length=len*i'.size:=by rw[DU]; omega
           have hos:(Builtin.firstCells i'.size len (.slice (some ⟨b,0,none⟩) len cap)).run E.P (A5 w)=.ok (List.toArray (vs.take (len*i'.size))) (A5 w):=by
            simp only[Builtin.firstCells]
            have:=Em (P:=E.P) (w:=A5 w) (b:=b) (o:=0) (vs.take (len*i'.size)) (fun j q hj=>by
             rw[CT] at hj;split at hj
             ·have:=Bd (w:=A5 w) (o:=0+j) k2
              rw[this,CJ]; exact hj
             ·simp at hj)
            rw[oN] at this;exact this
           obtain⟨F3,rest,NT,Pc,hrun⟩:=run_append_grow (base:=some ⟨b,0,none⟩) (sCap:=cap) T ts ht hi hu hd hn (wP (A5 w) rfl) hos iI (by omega) NF MA;obtain⟨e1,i1⟩:=hI.drew (L:=L);obtain⟨e2,i2⟩:=i1.kill (L:=L) F2 hro
           have hpre:(old.take (len*i'.size)++(c::cs)).length<=(vs.take (len*i'.size)++us++rest).length:=by
            simp only[Ab,oN,iK,Bu,cn]; omega
           have RL:(vs.take (len*i'.size)++us++rest).take (old.take (len*i'.size)++(c::cs)).length=vs.take (len*i'.size)++us:=by
            rw[Re (by simp only[Ab,oN,iK,Bu,cn])]
           obtain⟨e3,i3⟩:=i2.Qi (L:=L) (cs:=old.take (len*i'.size)++(c::cs)) (vs:=vs.take (len*i'.size)++us++rest) elem hpre (by rw[RL]; exact((k4.append hvl).mono e1).mono e2);refine⟨_,_,_,hrun,?_,(e1.trans e2).trans e3,i3⟩;refine V.ref (b:=w.heap.size) (e:=elem) (n:=(vs.take (len*i'.size)++us++rest).length) ?_ NT ?_ ?_
           ·simp[AH.F1,A5]
           ·exact Be (by rw[Bm]; exact if_pos rfl)
           ·simp only[Ab,oN,cn,Pc,hzs]
            rw[<-CH,<-CH];rw[show len+n+(F3-(len+n))=F3 by omega];omega
        ·simp at h
       ·simp at h
      ·rename_i rows
       split at h
       ·rename_i hc
        obtain⟨NF,MA,hall⟩:=hc;have hl:=LM hall;cases hx with
        | @AA _ base b o sz f hr=>
         obtain⟨os,hfo,_,SQ⟩:=hr.VK hk hl rows.length;obtain⟨F3,rest,NT,Pc,hrun⟩:=run_append_grow (base:=base) (sCap:=rows.length) T ts ht hi hu hd hn (wP (A5 w) rfl) (SQ E.P (A5 w) rfl) iI (by omega) NF MA;obtain⟨e1,i1⟩:=hI.drew (L:=L);cases UT:L.mu elem with
         | true=>
          simp only[UT,AE,AY,Af] at h;obtain⟨rfl,rfl⟩:=h;have hvo:=(hfo.vl hk).append hvl;have hlen:(rows.flatten.map AV.pv++(c::cs)).length=(os++us).length:=hvo.len;obtain⟨e3,i3⟩:=i1.Qi (L:=L) (cs:=rows.flatten.map .pv++(c::cs)) (vs:=os++us++rest) elem (by rw[hlen]; simp) (by rw[hlen,Re rfl]; exact hvo.mono e1);refine⟨_,_,_,hrun,?_,e1.trans e3,i3⟩;refine V.ref (b:=w.heap.size) (e:=elem) (n:=(os++us++rest).length) ?_ NT ?_ ?_
          ·simp[AH.F1,A5]
          ·exact Be (by rw[Bm]; exact if_pos rfl)
          ·simp only[Ab,hfo.len,cn,Pc,hzs]
           rw[<-CH,<-CH];rw[show rows.length+n+(F3-(rows.length+n))=F3 by omega];omega
         | false=>
          simp only[UT,AB] at h;split at h
          ·rename_i ps hps
           simp only[AY,Af] at h;obtain⟨rfl,rfl⟩:=h;obtain⟨q1,q2⟩:=G3 hvl hps;have hfn:Flat g.I w (B6 i'.size n ps) i'.size us:=IY cn q1 q2;have lN:=hfo.append hfn
           have dJ:(os++us++rest).length=F3*i'.size:=by
            simp only[Ab,hfo.len,cn,Pc,hzs];rw[<-CH,<-CH];rw[show rows.length+n+(F3-(rows.length+n))=F3 by omega]
           obtain⟨e3,i3⟩:=i1.ZJ (L:=L) (t:=s.ts.length) (e:=elem) dJ NT hk oK (.inl ⟨rfl,rfl⟩);have hrl:(rows++B6 i'.size n ps).length=rows.length+n:=by rw[Ab,EF]
           refine⟨_,_,_,hrun,?_,e1.trans e3,i3⟩
           have hV:=G4 (g:=g.GX s.ts.length ⟨(A5 w).heap.size,F3,i'.size,rows.length+n,elem⟩) (w:=CO (A5 w) (os++us++rest) elem) (t:=s.ts.length) (b:=(A5 w).heap.size) (cap:=F3) (e:=elem)
            (by simp[AH.GX]) (lN.mono (e1.trans e3).mono (e1.trans e3).cell) hrl NT (fun o ho=>.inr ⟨rfl,ho⟩) (fun q u hq=>by
             rw[Bd (by rw[Bm]; exact if_pos rfl),BA (Bl hq)]; exact hq)
           rw[hrl] at hV;exact hV
          ·simp at h
       ·simp at h
      ·rename_i k rows
       split at h
       ·rename_i hc
        obtain⟨NF,MA,hts,Fz,hall⟩:=hc;have hl:=LM hall;split at h
        ·rename_i ps hps
         simp only[AY,Af] at h;obtain⟨rfl,rfl⟩:=h;obtain⟨q1,q2⟩:=G3 hvl hps;have hfn:Flat g.I w (B6 i'.size n ps) i'.size us:=IY cn q1 q2;have hrl:(rows++B6 i'.size n ps).length=rows.length+n:=by rw[Ab,EF]
         cases hx with
         | @own _ _ base b o sz cap f l hr hcap RL OH hf=>
          obtain⟨l',XS,Oc,oO⟩:=hI.F6 k _ _ hts;have:l'=l:=by rw[RL] at XS; simpa using XS.symm
          subst this;obtain⟨rfl,rfl,rfl,rfl,rfl⟩:=hf Oc.symm;obtain⟨os,hfo,hco,SQ⟩:=hr.VK hk hl l'.cap;have lN:=hfo.append hfn;obtain⟨vs,fz,hh,ADR,hnc,hsz,hfz,hsl⟩:=hI.tok k l' RL
          have VN:l'.sz=i'.size:=by
           rw[oO,oK] at hsl; simpa using hsl.symm
          by_cases hroom:rows.length+n<=l'.cap
          ·have hbd:l'.n*l'.sz+us.length<=vs.length:=by
            have:=CB i'.size hroom;rw[CH] at this;rw[Oc,VN,ADR,cn,VN]; exact this
           have hst:=Fc (P:=E.P) (b:=l'.b) (o:=l'.n*l'.sz) (e:=l'.e) hfz us 0 w vs hone hh (by omega);obtain⟨e3,i3⟩:=hI.AAR (L:=L) (n:=rows.length+n) (us:=us) RL hh (by omega) hroom Fz;have i3':Inv E (g.GX k { l' with n:=rows.length+n }) (A2 w l'.b (Bt vs (l'.n*l'.sz) us) l'.e fz) { s with ts:=s.ts.set k (rows.length+n,elem) }:=by rw[<-oO]; exact i3
           refine⟨.slice (some ⟨l'.b,0,none⟩) (rows.length+n) l'.cap,_,_,?_,?_,e3,i3'⟩
           ·rw[run_append_room T ts ht hi hu hd hn (wP w rfl) hroom]
            simp only[DW,CJ];rw[<-Oc,<-VN,hst];rfl
           ·have hV:=G4 (g:=g.GX k { l' with n:=rows.length+n }) (w:=A2 w l'.b (Bt vs (l'.n*l'.sz) us) l'.e fz) (t:=k) (b:=l'.b) (cap:=l'.cap) (sz:=l'.sz) (e:=l'.e)
             (by simp[AH.GX]) (Flat.AHT VN.symm (lN.mono e3.mono e3.cell)) hrl hroom (fun o ho=>.inr ⟨rfl,ho⟩) (fun q u hq=>by
              rw[Bd (by rw[BR,if_pos rfl,if_pos (hI.EE RL)])];rcases CU q os.length with x|x
              ·rw[BA x] at hq
               have:=(hco q u hq).2;rw[Bd hh,CJ] at this;rw[Ef us vs _ _ (.inl (by rw[Oc,VN,<-hfo.len]; exact x))];exact this
              ·rw[CV x] at hq
               have:=FK us vs (l'.n*l'.sz) _ u hq hbd;rw[Oc,VN,<-hfo.len,show os.length+(q-os.length)=q by omega] at this;rw[Oc,VN,<-hfo.len];exact this)
            rw[hrl] at hV;exact hV
          ·obtain⟨F3,rest,NT,Pc,hrun⟩:=run_append_grow (base:=some ⟨l'.b,0,none⟩) (sCap:=l'.cap) T ts ht hi hu hd hn (wP (A5 w) rfl) (SQ E.P (A5 w) rfl) iI (by omega) NF MA
           obtain⟨e1,i1⟩:=hI.drew (L:=L)
           have dJ:(os++us++rest).length=F3*i'.size:=by
            simp only[Ab,hfo.len,cn,Pc,hzs];rw[<-CH,<-CH];rw[show rows.length+n+(F3-(rows.length+n))=F3 by omega]
           obtain⟨e3,i3⟩:=i1.ZJ (L:=L) (t:=k) (e:=elem) dJ NT hk oK (.inr ⟨l',RL,by omega,Fz,rfl⟩);refine⟨_,_,_,hrun,?_,e1.trans e3,i3⟩
           have hV:=G4 (g:=g.GX k ⟨(A5 w).heap.size,F3,i'.size,rows.length+n,elem⟩) (w:=CO (A5 w) (os++us++rest) elem) (t:=k) (b:=(A5 w).heap.size) (cap:=F3) (e:=elem)
            (by simp[AH.GX]) (lN.mono (e1.trans e3).mono (e1.trans e3).cell) hrl NT (fun o ho=>.inr ⟨rfl,ho⟩) (fun q u hq=>by
             rw[Bd (by rw[Bm]; exact if_pos rfl),BA (Bl hq)]; exact hq)
           rw[hrl] at hV;exact hV
        ·simp at h
       ·simp at h
      ·simp at h
     ·simp at h
    ·simp at h
   ·simp at h
  ·simp at h
 ·simp at h
end Go.Tel
