/-
  Single operations, part 5: slices made, cut and appended to.
-/
import Derived.Test.YtpgfpakdnijngaaGreatDoorEvB
set_option linter.all false
namespace Go.Tel
theorem ZW {place:Nat->Option (Nat×Nat)} (parts:List (Nat×AV)):∀(cs cs':List AV),MO place cs parts=some cs'->cs'.length=cs.length:=by
 induction parts with
 | nil=>grind[MO]
 | cons p parts ih=>
  grind[MO,Fe]
theorem PU {E:Env} {L:BI} {g:AP} {w:World} {s s':AQ} (hI:Inv E g w s) {t:TypeId} {len:Nat} {parts:List (Nat×AV)} {ps:List (Nat×Value)} {v:AV}
  (hk:parts.map (·.1)=ps.map (·.1)) (hv:∀(i:Nat) p q,parts[i]?=some p->ps[i]?=some q->V g w p.2 q.2) (h:HE E.P L s t len parts=some (v,s')) :
  ∃v' w' g',(Instr.buildSlice t len ps.toArray).run E.P w=.ok v' w'/\V g' w' v v'/\Ext L g w g' w'/\Inv E g' w' s':=by
 unfold HE at h;split at h
 .rename_i elem hu
  split at h
  .rename_i k z hk' hz
   split at h
   .rename_i hc
    obtain⟨OU,Sg,WW⟩:=hc;split at h
    .rename_i cs hf
     obtain⟨i,hi,his⟩:=FQ hk';obtain⟨i',zv,hi',hz',hrun,hzl⟩:=D7 (g:=g) (w:=w) hz;have hzs:zv.cells.size=k:=by rw[<-IW,<-hzl.len]; omega
     obtain⟨vs',bq,hvl⟩:=OT (place:=λi=>some (i*k,k)) parts hk hv (hzl.Fx len) hf;have E6:cs.length=len*k:=by grind[ZW,Rt]
     have hlen:vs'.length=len*k:=by rw[<-hvl.len]; omega
     have hr:(Instr.buildSlice t len ps.toArray).run E.P w=.ok (.slice (some ⟨w.heap.size,0,none⟩) len len) (Cf w vs' elem):=by
      simp only[Instr.buildSlice,Sem.run_bind,run_underlying hu,Result.andThen_ok,run_sizeOf hi,his];rw[if_neg AA]
      by_cases hl0:len*k=0
      .have AYT:len=0:=by grind[Nat.mul_eq_zero]
       subst AYT;have AYU:Tel.Fx 0 zv.cells.toList=[]:=rfl;rw[AYU] at bq;simp only[Y7,Gu,Sem.run_bind,Sem.run_pure,Result.andThen_ok];rw[show(Array.map (λx=>(#[]:Array Value)[x % (#[]:Array Value).size]!) (Array.range 0))=⟨[]⟩ from by simp,bq];rfl
      .simp only[hl0,JG,Sem.run_bind,hrun,Result.andThen_ok,Sem.run_pure]
       have:=Tn zv.cells len AA;rw[hzs] at this ⊢;rw[this,bq];rfl
     cases ZX:(muL L elem&&Nat.blt 0 len) with
     | true=>
      simp only[ZX,AN] at h;simp only[BN,BT] at h;obtain⟨rfl,rfl⟩:=h;obtain⟨e1,e2⟩:=hI.Tl (L:=L) elem hvl.full.1 hvl.full.2;refine⟨_,_,_,hr,V.ref (b:=w.heap.size) (e:=elem) (n:=vs'.length) ?_ (AY _) ?_ ?_,e1,e2⟩
      .simp[AP.F5]
      .exact Bx (by rw[CM,if_pos rfl])
      omega
     | false=>
      simp only[ZX,AL] at h;split at h
      .rename_i qs hq
       simp only[BN,BT] at h;obtain⟨rfl,rfl⟩:=h;obtain⟨e1,e2⟩:=hI.AOI (L:=L) vs' elem;obtain⟨k1,k2⟩:=HF hvl hq;have AOJ:Flat g.I w (CJ k len qs) k vs':=Ik hlen k1 k2;have AGj:=AOJ.mono e1.mono e1.cell
       have hra:=AGj.iP (b:=w.heap.size) (o:=0) (λq _=>.inr rfl) (λq u hq=>by
        rw[Bw (by rw[CM,if_pos rfl])]; grind)
       refine⟨_,_,_,hr,?_,e1,e2⟩
       grind[V.AE,Fi]
      grind
    grind
   grind
  grind
 grind
theorem Inv.alive {E:Env} {g:AP} {w:World} {s:AQ} (h:Inv E g w s) {id:Nat} (ha:Tel.alive s id=true):¬ g.dead id:=λhd=>by
 have:=h.Dq id hd
 grind[Tel.alive]
theorem Qp {E:Env} {P:Program} {g:AP} {w:World} {s:AQ} (hI:Inv E g w s) {t:TypeId} {x ix v:AV} {xv iv:Value} (hx:V g w x xv) (hi:V g w ix iv) (h:IB P s t x ix=some v) :
  ∃v',(Instr.indexAt t xv iv).run P w=.ok v' w/\V g w v v':=by
 unfold IB at h
 have hint:∀i,ZK ix=some i->∃k,iv=.int k i:=by
  intro i hi';unfold ZK at hi';split at hi'
  .rename_i k n; simp at hi'; subst hi'; exact⟨k,hi.C6⟩
  grind
 split at h
 .rename_i elem i hu Tp
  obtain⟨ik,rfl⟩:=hint i Tp;split at h
  .rename_i k hk
   obtain⟨ti,iE,his⟩:=FQ hk;split at h
   .rename_i rows hrows
    split at h
    .rename_i h0
     split at h
     .rename_i row hrow
      split at h
      .rename_i hlen
       simp at h; subst h;obtain⟨base,cap,b,o,sz,f,rfl,hcap,hr⟩:=Ef hx hrows;have hsz:sz=k:=by rw[<-hr.hsz row (A5 hrow)]; omega
       subst hsz;have hb:=hr.hbase AB hlen.2;subst hb;have hlt:=DF hrow;refine⟨_,?_,V.Ct (b:=b) (o:=o+i.toNat*sz) 0 (λj=>f i.toNat j) (λj c hj=>⟨(hr.hc _ row j c hrow hj).1,(hr.hc _ row j c hrow hj).2,hr.hv _ row j c hrow hj⟩)⟩;have hi2:i<(rows.length:Int):=AA;simp[*,Instr.indexAt,asIntOf,run_underlying,run_sizeOf,DT]
      grind
     grind
    grind
   .split at h
    .rename_i id off len sz
     split at h
     .rename_i hb
      obtain⟨hb0,Qq,Mk,hal⟩:=hb;simp at h; subst h;cases hx with
      | @ref _ _ _ _ b cap n e Il hcap hs hn=>
       simp[*,V.ptr,Instr.indexAt,asIntOf,run_underlying,run_sizeOf,DT]
      | JQ hd=>exact absurd hd (hI.alive hal)
     grind
    grind
  grind
 .rename_i len elem i hu Tp
  obtain⟨ik,rfl⟩:=hint i Tp;split at h
  .rename_i k hk
   obtain⟨ti,iE,his⟩:=FQ hk;split at h
   .rename_i hb
    split at h
    .rename_i id off
     cases hal:Tel.alive s id with
     | false=>grind
     | true=>
     simp[hal] at h; subst h;cases hx with
     | Ls hd=>exact absurd hd (hI.alive hal)
     | @ptr _ _ b Il=>
      simp[*,V.ptr,Instr.indexAt,Instr.sureAddr,asIntOf,run_underlying,run_sizeOf,DT]
    .simp at h; subst h
     cases hx with
     | Dt=>
      simp[*,V.Dt,Instr.indexAt,Instr.sureAddr,asIntOf,run_underlying,run_sizeOf,DT]
    .simp at h; subst h
     cases hx with
     | @Ct _ b o _ f hr=>
      refine⟨_,?_,V.Ct (b:=b) (o:=o) _ f hr⟩;simp[*,Instr.indexAt,Instr.sureAddr,asIntOf,run_underlying,run_sizeOf,DT,Y8]
    grind
   grind
  grind
 grind
theorem LD {E:Env} {P:Program} {g:AP} {w:World} {s:AQ} (hI:Inv E g w s) {t:TypeId} {x v:AV} {xv:Value} {fi:Nat} (hx:V g w x xv) (h:IA P s t x fi=some v) :
  ∃v',(∀w2:World,(Instr.fieldAt t xv fi).run P w2=.ok v' w2)/\V g w v v':=by
 unfold IA at h;split at h
 .rename_i fields hu
  split at h
  .rename_i f hf
   split at h
   .rename_i k hk
    obtain⟨ti,iE,his⟩:=FQ hk;split at h
    .grind
    .rename_i tM
     have hk0':ti.size≠0:=AA;split at h
     .rename_i id off
      cases hal:Tel.alive s id with
      | false=>grind
      | true=>
      simp[hal] at h; subst h;cases hx with
      | Ls hd=>exact absurd hd (hI.alive hal)
      | @ptr _ _ b Il=>
       simp[*,V.ptr,Instr.fieldAt,Instr.sureAddr,fieldPlace,run_underlying,run_sizeOf,DT]
     .simp at h; subst h
      cases hx with
      | Dt=>
       simp[*,V.Dt,Instr.fieldAt,Instr.sureAddr,fieldPlace,run_underlying,run_sizeOf,DT]
     .simp at h; subst h
      cases hx with
      | @Ct _ b o _ ff hr=>
       refine⟨_,λw2=>?_,V.Ct (b:=b) (o:=o) _ ff hr⟩;simp[*,Instr.fieldAt,Instr.sureAddr,fieldPlace,run_underlying,run_sizeOf,DT,Y8]
     grind
   grind
  grind
 grind
theorem ZY {P:Program} {g:AP} {w:World} {t:TypeId} {x v:AV} {xv:Value} {fi:Nat} (hx:V g w x xv) (h:Ti P t x fi=some v) :
  ∃v',(Instr.field t xv fi).run P w=.ok v' w/\V g w v v':=by
 unfold Ti at h;split at h
 .rename_i fields cs hu
  split at h
  .rename_i f hf
   obtain⟨vs,rfl,hl⟩:=hx.ZS;obtain⟨v',h1,h2⟩:=ZU (P:=P) hl h;simp[*,Instr.field,run_underlying,asAgg]
  grind
 grind
theorem WX {P:Program} {α β:Type} {w:World} (f:α->Sem β) (h:α->β) (l:List α) (hf:∀x∈l,(f x).run P w=.ok (h x) w) :
  (l.mapM f).run P w=.ok (l.map h) w:=by
 induction l with
 | nil=>simp
 | cons x l ih=>
  simp_all
theorem Tq {P:Program} {α β:Type} {w:World} (f:α->Sem β) (h:α->β) (l:Array α) (hf:∀x∈l.toList,(f x).run P w=.ok (h x) w) :
  (l.mapM f).run P w=.ok (l.map h) w:=by
 rw[lO];simp only[Sem.run_map,WX f h l.toList hf,Result.andThen_ok];congr 1
 grind
theorem ZZ {P:Program} {g:AP} {w:World} {t:TypeId} {parts:List (Nat×AV)} {ps:List (Nat×Value)} {v:AV}
  (hk:parts.map (·.1)=ps.map (·.1)) (hv:∀(i:Nat) p q,parts[i]?=some p->ps[i]?=some q->V g w p.2 q.2) (h:Th P t parts=some v) :
  ∃v',(Instr.build t ps.toArray).run P w=.ok v' w/\V g w v v':=by
 unfold Th at h;split at h
 .rename_i z fields hz hu
  split at h
  .rename_i cs hf
   split at h
   .rename_i hall
    simp at h; subst h;obtain⟨i,zv,hi,pT,hrun,hzl⟩:=D7 (g:=g) (w:=w) hz;obtain⟨vs',bq,hvl⟩:=OT parts hk hv hzl hf;refine⟨.agg ⟨vs'⟩,?_,V.uJ hvl⟩
    have hmap:(fields.mapM λf=>(do pure (f.offset,<-sizeOf f.type):Sem (Nat×Nat))).run P w=.ok (fields.map λf=>(f.offset,(D2 P f.type).getD 0)) w:=by
     apply Tq;intro f hfm;have:=Array.all_eq_true'.1 hall f (Array.mem_toList_iff.1 hfm);cases hs:D2 P f.type with
     | none=>grind
     | some k=>
      obtain⟨ti,iE,his⟩:=FQ hs;simp[*,run_sizeOf]
    have AYV:(λi=>(fields.map λf=>(f.offset,(D2 P f.type).getD 0))[i]?)=Tg P fields:=by grind[Tg]
    simp_all[Instr.build,run_underlying]
   grind
  grind
 .rename_i z n elem hz hu
  split at h
  .rename_i k hk'
   split at h
   .rename_i cs hf
    simp at h; subst h;obtain⟨ti,iE,his⟩:=FQ hk';obtain⟨i,zv,hi,pT,hrun,hzl⟩:=D7 (g:=g) (w:=w) hz;obtain⟨vs',bq,hvl⟩:=OT parts hk hv hzl hf;simp[*,V.uJ,Instr.build,run_underlying,run_sizeOf]
   grind
  grind
 grind
theorem bt {α:Type} {k:Nat} (hk:k≠0) (rows:List (List α)) (h:∀r∈rows,r.length=k):∀q:Nat,rows.flatten[q]?=(rows[q / k]?).bind (λr=>r[q % k]?):=by
 induction rows with
 | nil=>simp
 | cons r rows ih=>
  intro q;have hr:r.length=k:=h r AD;rw[NV];rcases Fq q k with hq|hq
  .grind[Nat.div_eq_of_lt,Nat.mod_eq_of_lt]
  .rw[Ey AA,ih (λr hr=>h r AB),hr]
   have e1:q / k=(q-k) / k+1:=Nat.div_eq_sub_div AA hq
   grind[Nat.mod_eq_sub_mod]
theorem Ml {α:Type} {k:Nat} (rows:List (List α)) (h:∀r∈rows,r.length=k):rows.flatten.length=rows.length*k:=by
 induction rows with
 | nil=>simp
 | cons r rows ih=>
  grind
theorem Flat.vl {g:AP} {w:World} {rows:List (List PV)} {k:Nat} {us:List Value} (h:Flat g.I w rows k us) (hk:k≠0):VL g w (rows.flatten.map .pv) us:=by
 refine⟨by rw[Bt,Ml rows h.hsz,h.len],λq c v h1 h2=>?_⟩;rw[Fp,bt hk rows h.hsz] at h1;cases hr:rows[q / k]? with
 | none=>grind
 | some row=>
  cases hj:row[q % k]? with
  | none=>grind
  | some p=>
   simp[hr,hj] at h1; subst h1;obtain⟨u,h3,h4⟩:=h.at_ (q / k) row (q % k) p hr hj;rw[show q / k*k+q % k=q by grind[Nat.div_add_mod]] at h3;rw[h2] at h3; simp at h3; subst h3;exact .pv h4
theorem Lu {rows:List (List PV)} {k:Nat} (h:(rows.all λr=>r.length==k)=true):∀r∈rows,r.length=k:=λr hr=>by grind
theorem EU.XP {I:Nat->Nat->Prop} {w:World} {rows:List (List PV)} {base:Option Addr} {b o sz k:Nat} {f:Nat->Nat->Value} (h:EU I w rows base b o sz f) (hk:k≠0)
  (hl:∀r∈rows,r.length=k) (cap:Nat):∃us,Flat I w rows k us/\(∀q u,us[q]?=some u->I b (o+q)/\w.cell? ⟨b,o+q,none⟩=some u)/\∀(P:Program) (w':World),w'.heap=w.heap->(Builtin.firstCells k rows.length (.slice base rows.length cap)).run P w'=.ok (List.toArray us) w':=by
 by_cases hne:rows=[]
 .subst hne
  refine⟨[],⟨AD,AD,AD⟩,AD,λP w' _=>?_⟩;cases base with
  | none=>rfl
  | some a=>simp[Builtin.firstCells,loadCells,loadCellsFrom]
 .obtain⟨r,rs,rfl⟩:∃r rs,rows=r::rs:=by cases rows with|nil=>grind|cons r rs=>simp
  have hsk:sz=k:=by rw[<-h.hsz r AD]; grind
  subst hsk;obtain⟨us,hf,hc⟩:=h.flat hk;refine⟨us,hf,hc,λP w' hw'=>?_⟩;rw[h.hbase hne hk];simp only[Builtin.firstCells];rw[<-hf.len]
  grind[Ep,Cb]
theorem Js {E:Env} {g:AP} {w:World} {s:AQ} (hI:Inv E g w s) {y:AV} {yv:Value} {k:Nat} {cs:List AV} (hy:V g w y yv) (hk:k≠0) (h:Cz s k y=some cs) :
  ∃n us,(Builtin.lenOf yv).run E.P w=.ok n w/\cs.length=n*k/\(∀w',w'.heap=w.heap->(Builtin.firstCells k n yv).run E.P w'=.ok (List.toArray us) w')/\VL g w cs us:=by
 unfold Cz at h;split at h
 .rename_i b
  split at h
  .rename_i Te
   subst Te;simp at h; subst h;have:=hy.C6; subst this;refine⟨b.size,b.data.toList.map λb=>.int .u8 b.toNat,AR,AD,λw' _=>?_,?_⟩
   .simp only[Builtin.firstCells]
    have:b.extract 0 b.size=b:=AD;rw[this,Sem.run_pure];congr 1
    grind
   .refine⟨AD,λi c v h1 h2=>?_⟩
    grind[V.Kr]
  grind
 .rename_i id off len sz
  split at h
  .rename_i bcs hb
   split at h
   .rename_i hc
    obtain⟨OU,Sg,hal⟩:=hc;subst Sg;simp at h; subst h;cases hy with
    | JQ hd=>exact absurd hd (hI.alive hal)
    | @ref _ _ _ _ b cap n e Il hcap hs hn=>
     obtain⟨cs',vs,e',k1,k2,kle,k3⟩:=hI.blk id b Il;rw[hb] at k1; simp at k1; subst k1;have hvl:=(k3.drop off).take (len*sz);refine⟨len,_,AR,AB,λw' hw'=>?_,hvl⟩;simp only[Builtin.firstCells];have hlen:(((vs.take bcs.length).drop off).take (len*sz)).length=len*sz:=AB
     grind[Ep,Bw]
   grind
  grind
 .split at h
  .rename_i rows hrows
   split at h
   .rename_i hall
    simp only[BN] at h; subst h;have hl:=Lu hall;obtain⟨base,cap,b,o,sz,f,rfl,hcap,hr⟩:=Ef hy hrows;obtain⟨us,hf,_,hrun⟩:=hr.XP hk hl cap;exact⟨rows.length,us,AR,by grind[Ml],λw' hw'=>hrun E.P w' hw',hf.vl hk⟩
   grind
  grind
theorem run_append_room {P:Program} {w:World} {t u elem:TypeId} {d:TypeDesc} {i:TypeInfo} {base:Option Addr} {sLen sCap n:Nat} {x:Value} {us:List Value} (T:TypeId) (ts:List TypeId)
  (ht:P.underlying t=some (.slice elem)) (hi:P.info? elem=some i) (hu:P.underlying u=some d) (hd:∀k,d≠.int k)
  (hn:(Builtin.lenOf x).run P w=.ok n w) (hf:(Builtin.firstCells i.size n x).run P w=.ok (List.toArray us) w) (hroom:sLen+n<=sCap) :
  (Builtin.append_ (List.toArray (t::u::ts)) T #[.slice base sLen sCap,x]).run P w =
   match base with
   | none=>.ok (.slice base (sLen+n) sCap) w
   | some a=>((storeCells (a.add (sLen*i.size)) us).run P w).andThen λ_ w'=>.ok (.slice base (sLen+n) sCap) w':=by
 simp only[Builtin.append_];simp[run_underlying ht,run_sizeOf hi,run_underlying hu,hn,hroom,hf];cases base <;> simp
theorem pU (newLen:Nat):∀(r c:Nat),Builtin.growBy newLen r c<=max c (newLen+(newLen+768) / 4):=by
 intro r
 induction r with
 | zero=>grind[Builtin.growBy]
 | succ r ih=>
  grind[Builtin.growBy]
theorem nextslicecap_le (need cap:Nat) (h:cap<need):Builtin.nextslicecap need cap<=3*need:=by grind[Builtin.nextslicecap,pU]
def Bd (w:World):World:={ w with drawn:=w.drawn+1 }
theorem run_append_grow {P:Program} {w:World} {t u elem:TypeId} {d:TypeDesc} {i:TypeInfo} {base:Option Addr} {sLen sCap n:Nat} {x zv:Value} {us os:List Value} (T:TypeId) (ts:List TypeId)
  (ht:P.underlying t=some (.slice elem)) (hi:P.info? elem=some i) (hu:P.underlying u=some d) (hd:∀k,d≠.int k)
  (hn:(Builtin.lenOf x).run P w=.ok n w) (hf:(Builtin.firstCells i.size n x).run P (Bd w)=.ok (List.toArray us) (Bd w))
  (ho:(Builtin.firstCells i.size sLen (.slice base sLen sCap)).run P (Bd w)=.ok (List.toArray os) (Bd w)) (hz:i.zero=some zv)
  (hroom:sCap<sLen+n) (Qq:(sLen+n)*i.bytes<=2 ^ 45) (Mk:sLen+n<=2 ^ 45) :
  ∃cap rest,sLen+n<=cap/\rest.length=(cap-(sLen+n))*zv.cells.size /\
   (Builtin.append_ (List.toArray (t::u::ts)) T #[.slice base sLen sCap,x]).run P w=.ok (.slice (some ⟨w.heap.size,0,none⟩) (sLen+n) cap) (Cf (Bd w) (os++us++rest) elem):=by
 have hcap:¬ (2 ^ 48<Builtin.nextslicecap (sLen+n) sCap*i.bytes):=by
  have:=nextslicecap_le (sLen+n) sCap hroom;have:=B5 i.bytes this
  grind
 have AYW:¬ (IntKind.i64.max<((sLen:Int)+(n:Int))):=by
  have:IntKind.i64.max=9223372036854775807:=rfl;omega
 have hzero:(zeroValue elem).run P (Bd w)=.ok zv (Bd w):=by simp[*,zeroValue,run_typeInfo]
 refine⟨(sLen+n)+w.tape w.drawn (.appendCap (sLen+n) sCap elem) % (2 ^ 63-(sLen+n)),(Builtin.zeroCells zv.cells ((sLen+n)+w.tape w.drawn (.appendCap (sLen+n) sCap elem) % (2 ^ 63-(sLen+n))-(sLen+n))).toList,NW _ _,?_,?_⟩
 .simp[Builtin.zeroCells]
 .simp only[Builtin.append_]
  simp[run_underlying ht,run_sizeOf hi,run_underlying hu,hn,run_typeInfo hi,Question.forced,Question.cut];rw[if_neg AA,if_neg AA,if_neg hcap];have hf':=hf;have ho':=ho;have hzero':=hzero;unfold Bd at hf' ho' hzero';simp[ho',hf',hzero',newRow,Cf,Bd];congr 2;simp
theorem Inv.drew {E:Env} {L:BI} {g:AP} {w:World} {s:AQ} (h:Inv E g w s):Ext L g w g (Bd w)/\Inv E g (Bd w) s:=by
 have ext:Ext L g w g (Bd w):=
  ⟨rfl,rfl,rfl,AY _,λ_ _ h=>h,λ_ _ _=>rfl,λ_ _ h=>.inl h,λ_ h=>h,λ_ _ _ _=>rfl,λ_ l h=>⟨l,h,.inl rfl⟩,λ_ _ h _=>⟨h,rfl⟩,
   λ_ _ h _=>⟨h,rfl,λ_ h=>h⟩,λ_ _ _ _ _=>⟨rfl,λ_ h=>h⟩,λ_ _ h=>h,λ_ _ _=>⟨λ_=>rfl,λ_ h=>h⟩,λid _ h _=>⟨id,h⟩,λid _ h _=>⟨id,h⟩,λ_ l h _=>⟨l,h,rfl⟩,λ_ h=>h⟩
 refine⟨ext,?_⟩
 exact { h with
  blk:=λid b hb=>by
   obtain⟨cs,vs,e,h1,h2,h3,h4⟩:=h.blk id b hb;exact⟨cs,vs,e,h1,h2,h3,h4.mono ext⟩
  FL:=λgl row hr j c hj=>by
   obtain⟨v,h1,h2,h3⟩:=h.FL gl row hr j c hj;exact⟨v,h1,h2,h3.mono ext.mono ext.cell⟩
  DG:=λgl row hr=>by
   obtain⟨h1,h2⟩:=h.DG gl row hr;exact⟨h1,h2⟩ }
def AP.Gj (g:AP) (t:Nat) (l:Qn):AP:=
 {g with tok:=λk=>if k=t then some l else g.tok k,I:=λb o=>g.I b o\/(b=l.b/\o<l.n*l.sz) }
theorem Inv.lf {E:Env} {L:BI} {g:AP} {w:World} {s:AQ} (h:Inv E g w s) {t cap sz n:Nat} {vs:List Value} {e:TypeId} {ts':List (Nat×Nat)}
  (hv:vs.length=cap*sz) (hn:n<=cap) (hsz:sz≠0) (hse:D2 E.P e=some sz)
  (ht:(t=s.ts.length/\ts'=s.ts++[(n,e)])\/(∃l,g.tok t=some l/\l.n<n/\L.rt<=t/\ts'=s.ts.set t (n,e))) :
  Ext L g w (g.Gj t ⟨w.heap.size,cap,sz,n,e⟩) (Cf w vs e)/\Inv E (g.Gj t ⟨w.heap.size,cap,sz,n,e⟩) (Cf w vs e) { s with ts:=ts' }:=by
 have hs:(Cf w vs e).heap.size=w.heap.size+1:=by simp[Cf]
 have hnone:∀k l,g.tok k=some l->k<s.ts.length:=λk l hl=>DF (h.G5 k l hl)
 have Za:∀k,k≠t->(g.Gj t ⟨w.heap.size,cap,sz,n,e⟩).tok k=g.tok k:=λk hk=>by grind[AP.Gj]
 have KX:(g.Gj t ⟨w.heap.size,cap,sz,n,e⟩).tok t=some ⟨w.heap.size,cap,sz,n,e⟩:=by simp[AP.Gj]
 have hts:∀k,k≠t->ts'[k]?=s.ts[k]?\/(k>=s.ts.length/\ts'[k]?=none):=AB;have htt:ts'[t]?=some (n,e):=AB;have inv:∀k l,(g.Gj t ⟨w.heap.size,cap,sz,n,e⟩).tok k=some l->(k=t/\l=⟨w.heap.size,cap,sz,n,e⟩)\/(k≠t/\g.tok k=some l):=λk l hl=>by grind
 have ext:Ext L g w (g.Gj t ⟨w.heap.size,cap,sz,n,e⟩) (Cf w vs e):={
  os:=rfl,tape:=rfl,output:=rfl,size:=AA
  mono:=λ_ _ hi=>.inl hi
  cell:=λk o hi=>Cb (BJ (h.Jq k o hi)) o
  blk:=λ_ _ hb=>.inl hb
  dead:=λ_ hd=>hd
  shape:=λid b hb _=>EE (BJ (h.E5 hb))
  tok:=λk l hl=>by grind
  Ge:=λid b hb _=>⟨hb,BJ (h.E5 hb)⟩
  F1:=λk l hl hlt=>by
   have hk:k≠t:=λe=>by grind
   exact⟨AB,BJ (h.Hg hl),λo ho=>ho.resolve_right (λe=>by have:=h.Hg hl; grind)⟩
  out:=λk hk _ _ _=>⟨BJ hk,λo ho=>ho.resolve_right (λe=>by grind)⟩
  mp:=λ_ _ hb=>hb
  F2:=λ_ b' hb'=>⟨λ_=>BJ (h.PS hb'),λo ho=>ho.resolve_right (λe=>by have:=h.PS hb'; grind)⟩
  LB:=λid' _ hb _=>⟨id',hb⟩
  HZ:=λid _ hb _=>⟨id,hb⟩
  DM:=λ_ h=>h
  LC:=λk l hl hlt=>by grind }
 refine⟨ext,?_⟩
 exact {
  E4:=h.E4
  Dp:=h.Dp
  Dq:=h.Dq
  blk:=λid b hb=>by
   obtain⟨cs',us,e',h1,h2,h3,h4⟩:=h.blk id b hb;exact⟨cs',us,e',h1,by grind[BJ],h3,h4.mono ext⟩
  F3:=λid b o hb hi=>by
   rcases hi with hi|hi
   .exact h.F3 id b o hb hi
   .have:=h.E5 hb; grind
  G4:=λk m q hk=>by
   by_cases e:k=t
   .grind
   .rw[Za k e]
    rcases hts k e with x|⟨_,x⟩
    .rw[x] at hk; exact h.G4 k m q hk
    grind
  G5:=λk l hl=>by
   rcases inv k l hl with ⟨rfl,rfl⟩|⟨hk,hl⟩
   .omega
   .rcases hts k hk with x|⟨x,_⟩
    .rw[x]; exact h.G5 k l hl
    grind
  tok:=λk l hl=>by
   rcases inv k l hl with ⟨_,rfl⟩|⟨_,hl⟩
   .grind[CM]
   .obtain⟨us,e',h1,h2⟩:=h.tok k l hl
    grind[BJ]
  G6:=λk l o hl hle hi=>by
   rcases inv k l hl with ⟨_,rfl⟩|⟨_,hl⟩
   .rcases hi with hi|hi
    .have:=h.Jq _ o hi; grind
    omega
   .rcases hi with hi|hi
    .exact h.G6 k l o hl hle hi
    .have:=h.Hg hl; grind
  FK:=h.FK
  Gi:=λk k' l l' hl hl' he=>by
   rcases inv k l hl with ⟨e1,rfl⟩|⟨_,hl⟩
   .rcases inv k' l' hl' with ⟨e2,_⟩|⟨_,hl'⟩
    .rw[e1,e2]
    .have:=h.Hg hl'; grind
   .rcases inv k' l' hl' with ⟨_,rfl⟩|⟨_,hl'⟩
    .have:=h.Hg hl; grind
    .exact h.Gi k k' l l' hl hl' he
  DN:=λid b k l hb hl=>by
   rcases inv k l hl with ⟨_,rfl⟩|⟨_,hl⟩
   .have:=h.E5 hb; grind
   .exact h.DN id b k l hb hl
  Jq:=λk o hi=>by
   rw[hs];rcases hi with hi|hi
   .have:=h.Jq k o hi; omega
   grind
  Ee:=h.Ee
  mp:=h.I5 (λ_ _ _=>rfl) (λ_ _ hb'=>BJ (h.PS hb'))
  MQ:=h.MQ
  Hu:=h.Hu
  Dx:=h.Dx
  FL:=λgl row hr j c hj=>by
   obtain⟨v,h1,h2,h3⟩:=h.FL gl row hr j c hj;exact⟨v,.inl h1,by rw[ext.cell _ _ h1]; omega,h3.mono ext.mono ext.cell⟩
  DG:=λgl row hr=>by
   obtain⟨h1,h2⟩:=h.DG gl row hr;exact⟨.inl h1,by rw[ext.cell _ _ h1]; omega⟩ }
theorem Fg (us:List Value):∀(vs:List Value) (k q:Nat),(q<k\/k+us.length<=q)->(CL vs k us)[q]?=vs[q]?:=by
 induction us with
 | nil=>intro vs k q _; rfl
 | cons u us ih=>
  grind[CL]
theorem HG (us:List Value):∀(vs:List Value) (k q:Nat) (u:Value),us[q]?=some u->k+us.length<=vs.length->(CL vs k us)[k+q]?=some u:=by
 induction us with
 | nil=>simp
 | cons x us ih=>
  intro vs k q u h hle;simp only[B4] at hle;cases q with
  | zero=>
   grind[CL,Fg]
  | succ q=>
   simp at h;rw[CL,show k+(q+1)=k+1+q by omega];exact ih _ _ _ _ h AB
theorem Inv.ADQ {E:Env} {L:BI} {g:AP} {w:World} {s:AQ} (h:Inv E g w s) {t n:Nat} {l:Qn} {vs us:List Value} {fz:Nat×Nat} (hl:g.tok t=some l)
  (hh:w.heap[l.b]?=some (.cells ⟨vs⟩ l.e fz)) (hlt:l.n<n) (hle:n<=l.cap) (El:L.rt<=t) :
  Ext L g w (g.Gj t { l with n:=n }) (BO w l.b (CL vs (l.n*l.sz) us) l.e fz)/\Inv E (g.Gj t { l with n:=n }) (BO w l.b (CL vs (l.n*l.sz) us) l.e fz) { s with ts:=s.ts.set t (n,l.e) }:=by
 have hb:=h.Hg hl;have hne:∀k,k≠l.b->(BO w l.b (CL vs (l.n*l.sz) us) l.e fz).heap[k]?=w.heap[k]?:=λk hk=>by grind[Bj]
 have tL:(BO w l.b (CL vs (l.n*l.sz) us) l.e fz).heap[l.b]?=some (.cells ⟨CL vs (l.n*l.sz) us⟩ l.e fz):=by grind[Bj]
 have hs:(BO w l.b (CL vs (l.n*l.sz) us) l.e fz).heap.size=w.heap.size:=by simp[BO]
 obtain⟨vs0,fz0,hh0,hlen,hn0,hsz,AOK,hse⟩:=h.tok t l hl;have hvs:vs0=vs/\fz0=fz:=AB;rw[hvs.1] at hlen;rw[hvs.2] at AOK;have hnt:t<s.ts.length:=DF (h.G5 t l hl);have Za:∀k,k≠t->(g.Gj t { l with n:=n }).tok k=g.tok k:=λk hk=>by grind[AP.Gj]
 have KX:(g.Gj t { l with n:=n }).tok t=some { l with n:=n }:=by simp[AP.Gj]
 have inv:∀k l',(g.Gj t { l with n:=n }).tok k=some l'->(k=t/\l'={ l with n:=n })\/(k≠t/\g.tok k=some l'):=λk l' hl'=>by grind
 have AGk:∀b o,g.I b o->(BO w l.b (CL vs (l.n*l.sz) us) l.e fz).cell? ⟨b,o,none⟩=w.cell? ⟨b,o,none⟩:=λb o hi=>by
  by_cases hk:b=l.b
  .subst hk
   have:o<l.n*l.sz:=by
    rcases Fq o (l.n*l.sz) with x|x
    .exact x
    .exact absurd hi (h.G6 t l o hl x)
   rw[Bw tL,Bw hh,Fg us vs _ _ (.inl this)]
  grind[Cb]
 have ext:Ext L g w (g.Gj t { l with n:=n }) (BO w l.b (CL vs (l.n*l.sz) us) l.e fz):={
  os:=rfl,tape:=rfl,output:=rfl,size:=AA
  mono:=λ_ _ hi=>.inl hi
  cell:=AGk
  blk:=λ_ _ hb=>.inl hb
  dead:=λ_ hd=>hd
  shape:=λid b hb _=>EE (hne b (h.DN id b t l hb hl))
  tok:=λk l' hl'=>by grind
  Ge:=λid b hb _=>⟨hb,hne b (h.DN id b t l hb hl)⟩
  F1:=λk l' hl' hk'=>by
   have hk:k≠t:=λe=>by omega
   have Zb:l'.b≠l.b:=λe=>hk (h.Gi k t l' l hl' hl e)
   exact⟨AB,hne _ Zb,λo ho=>ho.resolve_right (λe=>Zb e.1)⟩
  out:=λk hk _ h2 _=>⟨hne k (λe=>h2 t l hl e.symm),λo ho=>ho.resolve_right (λe=>h2 t l hl e.1.symm)⟩
  mp:=λ_ _ hb=>hb
  F2:=λ_ b' hb'=>⟨λ_=>hne b' (h.mpT hb' hl),λo ho=>ho.resolve_right (λe=>h.mpT hb' hl e.1)⟩
  LB:=λid' _ hb _=>⟨id',hb⟩
  HZ:=λid _ hb _=>⟨id,hb⟩
  DM:=λ_ h=>h
  LC:=λk l' hl' _=>by grind }
 refine⟨ext,?_⟩
 exact {
  E4:=h.E4
  Dp:=h.Dp
  Dq:=h.Dq
  blk:=λid b hb=>by
   obtain⟨cs',us',e',h1,h2,h3,h4⟩:=h.blk id b hb;exact⟨cs',us',e',h1,by rw[hne b (h.DN id b t l hb hl)]; omega,h3,h4.mono ext⟩
  F3:=λid b o hb hi=>by
   rcases hi with hi|hi
   .exact h.F3 id b o hb hi
   .exact h.DN id b t l hb hl hi.1
  G4:=λk m q hk=>by
   by_cases e:k=t
   .grind
   .rw[Za k e]; simp only[FN (GK e)] at hk; exact h.G4 k m q hk
  G5:=λk l' hl'=>by
   rcases inv k l' hl' with ⟨rfl,rfl⟩|⟨hk,hl'⟩
   .grind
   .simp only[FN (GK hk)]; exact h.G5 k l' hl'
  tok:=λk l' hl'=>by
   rcases inv k l' hl' with ⟨_,rfl⟩|⟨hk,hl'⟩
   .exact⟨_,fz,tL,by grind[Bp],hle,hsz,BM AOK (B5 _ (Nat.le_of_lt hlt)),hse⟩
   .obtain⟨us',e',h1,h2⟩:=h.tok k l' hl'
    exact⟨us',e',by rw[hne _ (λe=>hk (h.Gi k t l' l hl' hl e))]; omega,h2⟩
  G6:=λk l' o hl' hle' hi=>by
   rcases inv k l' hl' with ⟨_,rfl⟩|⟨hk,hl'⟩
   .rcases hi with hi|hi
    .exact h.G6 t l o hl (by simp only at hle'; have:=B5 l.sz (Nat.le_of_lt hlt); omega) hi
    omega
   .rcases hi with hi|hi
    .exact h.G6 k l' o hl' hle' hi
    .exact hk (h.Gi k t l' l hl' hl hi.1)
  FK:=h.FK
  Gi:=λk k' l1 l2 h1 h2 he=>by
   rcases inv k l1 h1 with ⟨e1,rfl⟩|⟨_,h1⟩
   .rcases inv k' l2 h2 with ⟨e2,_⟩|⟨_,h2⟩
    .rw[e1,e2]
    .rw[e1]; exact h.Gi t k' l l2 hl h2 he
   .rcases inv k' l2 h2 with ⟨e2,rfl⟩|⟨_,h2⟩
    .rw[e2]; exact h.Gi k t l1 l h1 hl he
    .exact h.Gi k k' l1 l2 h1 h2 he
  DN:=λid b k l' hb hl'=>by
   rcases inv k l' hl' with ⟨_,rfl⟩|⟨_,hl'⟩
   .exact h.DN id b t l hb hl
   .exact h.DN id b k l' hb hl'
  Jq:=λk o hi=>by
   rw[hs];rcases hi with hi|hi
   .exact h.Jq k o hi
   grind
  Ee:=h.Ee
  mp:=h.I5 (λ_ _ _=>rfl) (λ_ b' hb'=>hne b' (h.mpT hb' hl))
  MQ:=h.MQ
  Hu:=h.Hu
  Dx:=h.Dx
  FL:=λgl row hr j c hj=>by
   obtain⟨v,h1,h2,h3⟩:=h.FL gl row hr j c hj;exact⟨v,.inl h1,AB,h3.mono ext.mono ext.cell⟩
  DG:=λgl row hr=>by
   obtain⟨h1,h2⟩:=h.DG gl row hr;exact⟨.inl h1,AB⟩ }
def AP.kill (g:AP) (id:Nat):AP:=
 {g with blk:=λi=>if i=id then none else g.blk i,dead:=λi=>g.dead i\/i=id,
         hd:=λi (hi:g.dead i\/i=id)=>(if e:i=id then if_pos e else(if_neg e).trans (g.hd i (hi.resolve_right e)):(if i=id then none else g.blk i)=none) }
theorem Inv.kill {E:Env} {L:BI} {g:AP} {w:World} {s:AQ} (h:Inv E g w s) {id b:Nat} (hb:g.blk id=some b) (hro:L.ro<=id) :
  Ext L g w (g.kill id) w/\Inv E (g.kill id) w { s with bs:=s.bs.set id [] }:=by
 have inv:∀i b',(g.kill id).blk i=some b'->i≠id/\g.blk i=some b':=λi b' hi=>by grind[AP.kill]
 have ext:Ext L g w (g.kill id) w:={
  os:=rfl,tape:=rfl,output:=rfl,size:=AY _
  mono:=λ_ _ hi=>hi
  cell:=λ_ _ _=>rfl
  blk:=λi b' hi=>by grind[AP.kill]
  dead:=λ_ hd=>.inl hd
  shape:=λ_ _ _ _=>rfl
  tok:=λ_ l hl=>⟨l,hl,.inl rfl⟩
  Ge:=λi b' hi hlt=>⟨by grind[AP.kill],rfl⟩
  F1:=λ_ _ hl _=>⟨hl,rfl,λ_ ho=>ho⟩
  out:=λ_ _ _ _ _=>⟨rfl,λ_ ho=>ho⟩
  mp:=λ_ _ hb=>hb
  F2:=λ_ _ _=>⟨λ_=>rfl,λ_ ho=>ho⟩
  LB:=λid' _ hb _=>⟨id',hb⟩
  HZ:=λi b' hi _=>⟨i,(inv i b' hi).2⟩
  DM:=λ_ h=>h
  LC:=λ_ l hl _=>⟨l,hl,rfl⟩ }
 refine⟨ext,?_⟩
 exact {
  E4:=λi b' hi=>by simpa using h.E4 i b' (inv i b' hi).2
  Dp:=λi hd=>by
   rcases hd with hd|rfl
   .simpa using h.Dp i hd
   .simpa using h.E4 _ b hb
  Dq:=λi hd=>by
   by_cases e:i=id
   .subst e; simp[h.E4 _ b hb]
   .rcases hd with hd|hd
    .simp only[FN (GK e)]; exact h.Dq i hd
    omega
  blk:=λi b' hi=>by
   obtain⟨e,hi⟩:=inv i b' hi;obtain⟨cs,vs,e',h1,h2,h3,h4⟩:=h.blk i b' hi;exact⟨cs,vs,e',AB,h2,h3,h4.mono ext⟩
  F3:=λi b' o hi=>h.F3 i b' o (inv i b' hi).2
  G4:=h.G4
  G5:=h.G5
  tok:=h.tok
  G6:=h.G6
  FK:=λi j b' hi hj=>h.FK i j b' (inv i b' hi).2 (inv j b' hj).2
  Gi:=h.Gi
  DN:=λi b' t l hi hl=>h.DN i b' t l (inv i b' hi).2 hl
  Jq:=h.Jq
  Ee:=λi hi=>by
   by_cases e:i=id
   .exact .inr (.inl (.inr e))
   .rcases h.Ee i AB with ⟨b',hb'⟩|q|q
    .exact .inl ⟨b',(if_neg e).trans hb'⟩
    .exact .inr (.inl (.inl q))
    .exact .inr (.inr q)
  mp:=h.I5 (λ_ _ hb'=>FN (h.uI hb hb')) (λ_ _ _=>rfl)
  MQ:=λi b' hb'=>by
   obtain⟨a1,a2,a3⟩:=h.MQ i b' hb';have hne:i≠id:=GK (h.uI hb hb');exact⟨(if_neg hne).trans a1,λhd=>hd.elim a2 hne,a3⟩
  Hu:=h.Hu
  Dx:=λi hp=>by
   obtain⟨a,b,c⟩:=h.Dx i hp;have hne:i≠id:=λe=>by grind
   exact⟨AB,(if_neg hne).trans b,λhd=>hd.elim c hne⟩
  FL:=λgl row hr j c hj=>by
   obtain⟨v,h1,h2,h3⟩:=h.FL gl row hr j c hj;exact⟨v,h1,h2,h3.mono ext.mono ext.cell⟩
  DG:=λgl row hr=>by
   obtain⟨h1,h2⟩:=h.DG gl row hr;exact⟨h1,h2⟩ }
theorem Inv.Tr {E:Env} {g:AP} {w:World} {s:AQ} (h:Inv E g w s) {id b:Nat} (hb:g.blk id=some b):¬ (g.kill id).dead s.bs.length:=λhd=>by
 rcases hd with hd|hd
 .have:=h.Dp _ hd; omega
 .have:=h.E4 id b hb; omega
theorem Inv.uN {E:Env} {L:BI} {g:AP} {w:World} {s:AQ} (h:Inv E g w s) {id b:Nat} {cs':List AV} {vs vs':List Value} {e:TypeId}
  (hb:g.blk id=some b) (hh:w.heap[b]?=some (.cells ⟨vs⟩ e (0,0))) (hvl:vs'.length=vs.length) (hro:L.ro<=id) (hle:cs'.length<=vs'.length) (hl:VL g w cs' (vs'.take cs'.length)) :
  Ext L g w ((g.kill id).F5 s.bs.length b (h.Tr hb)) (BO w b vs' e)/\Inv E ((g.kill id).F5 s.bs.length b (h.Tr hb)) (BO w b vs' e) { s with bs:=s.bs.set id []++[cs'] }:=by
 have hlt:=h.E5 hb;have hidl:=h.E4 id b hb;have hne:∀k,k≠b->(BO w b vs' e).heap[k]?=w.heap[k]?:=λk hk=>by grind[Bj]
 have tL:(BO w b vs' e).heap[b]?=some (.cells ⟨vs'⟩ e (0,0)):=by grind[Bj]
 have hsz:(BO w b vs' e).heap.size=w.heap.size:=by simp[BO]
 have inv:∀i b',((g.kill id).F5 s.bs.length b (h.Tr hb)).blk i=some b'->(i=s.bs.length/\b'=b)\/(i≠id/\i≠s.bs.length/\g.blk i=some b'):=λi b' hi=>by
  simp only[AP.F5,AP.kill] at hi
  grind
 have keep:∀i b',g.blk i=some b'->i≠id->((g.kill id).F5 s.bs.length b (h.Tr hb)).blk i=some b':=λi b' hi e=>by
  have:=h.E4 i b' hi;have e2:i≠s.bs.length:=AA;simp[*,AP.F5,AP.kill]
 have ext:Ext L g w ((g.kill id).F5 s.bs.length b (h.Tr hb)) (BO w b vs' e):={
  os:=rfl,tape:=rfl,output:=rfl,size:=AA
  mono:=λ_ _ hi=>hi
  cell:=λk o hi=>Cb (hne k (λhk=>h.F3 id b o hb (hk ▸ hi))) o
  blk:=λi b' hi=>by
   by_cases e:i=id
   .exact .inr (.inr e)
   grind
  dead:=λ_ hd=>.inl hd
  shape:=λi b' hi hi'=>by
   by_cases hk:b'=b
   .subst hk; rw[Bx tL,Bx hh,hvl]
   grind[EE]
  tok:=λ_ l hl=>⟨l,hl,.inl rfl⟩
  Ge:=λi b' hi hlt'=>by
   have e:i≠id:=AA;exact⟨keep i b' hi e,hne b' (λhk=>e (h.FK i id b' hi (hk ▸ hb)))⟩
  F1:=λt l hl _=>⟨hl,hne _ (λhk=>h.DN id b t l hb hl hk.symm),λ_ ho=>ho⟩
  out:=λk _ h1 _ _=>⟨hne k (λhk=>h1 id (hk ▸ hb)),λ_ ho=>ho⟩
  mp:=λ_ _ hb=>hb
  F2:=λ_ b' hb'=>⟨λ_=>hne b' (λhk=>h.mpB hb' (hk ▸ hb)),λ_ ho=>ho⟩
  LB:=λid' _ hb _=>⟨id',hb⟩
  HZ:=λi b' hi _=>by grind
  DM:=λ_ h=>h
  LC:=λ_ l hl _=>⟨l,hl,rfl⟩ }
 refine⟨ext,?_⟩
 exact {
  E4:=λi b' hi=>by
   rcases inv i b' hi with ⟨rfl,_⟩|⟨_,_,hi⟩
   .simp
   .have:=h.E4 i b' hi; grind
  Dp:=λi hd=>by
   rcases hd with hd|rfl
   .have:=h.Dp i hd; grind
   grind
  Dq:=λi hd=>by
   have hlt:i<s.bs.length:=by
    rcases hd with hd|rfl
    .exact h.Dp i hd
    omega
   rw[CX AB]
   by_cases e:i=id
   .grind
   .rcases hd with hd|hd
    .simp only[FN (GK e)]; exact h.Dq i hd
    omega
  blk:=λi b' hi=>by
   rcases inv i b' hi with ⟨rfl,rfl⟩|⟨e1,_,hi⟩
   .exact⟨cs',vs',e,AD,tL,hle,hl.mono ext⟩
   .obtain⟨cs,us,e',h1,h2,h3,h4⟩:=h.blk i b' hi
    exact⟨cs,us,e',AB,
     by rw[hne b' (λhk=>e1 (h.FK i id b' hi (hk ▸ hb)))]; omega,h3,h4.mono ext⟩
  F3:=λi b' o hi=>by
   rcases inv i b' hi with ⟨_,rfl⟩|⟨_,_,hi⟩
   .exact h.F3 id _ o hb
   .exact h.F3 i b' o hi
  G4:=h.G4
  G5:=h.G5
  tok:=λt l hl=>by
   obtain⟨us,e',h1,h2⟩:=h.tok t l hl
   grind
  G6:=h.G6
  FK:=λi j b' hi hj=>by
   rcases inv i b' hi with ⟨e1,e2⟩|⟨e1,e2,hi⟩
   .rcases inv j b' hj with ⟨e3,_⟩|⟨e3,e4,hj'⟩
    .rw[e1,e3]
    .exact absurd (h.FK j id b' hj' (by rw[hb,e2])) e3
   .rcases inv j b' hj with ⟨e3,e4⟩|⟨e3,e4,hj'⟩
    .exact absurd (h.FK i id b' hi (by rw[hb,e4])) e1
    .exact h.FK i j b' hi hj'
  Gi:=h.Gi
  DN:=λi b' t l hi hl=>by
   rcases inv i b' hi with ⟨_,rfl⟩|⟨_,_,hi⟩
   .exact h.DN id _ t l hb hl
   .exact h.DN i b' t l hi hl
  Jq:=λk o hi=>by rw[hsz]; exact h.Jq k o hi
  Ee:=λi hi=>by
   by_cases e:i=s.bs.length
   .exact .inl ⟨_,if_pos e⟩
   by_cases e2:i=id
   .exact .inr (.inl (.inr e2))
   .rcases h.Ee i AB with ⟨b',hb'⟩|q|q
    .grind
    .exact .inr (.inl (.inl q))
    .exact .inr (.inr q)
  mp:=h.I5 (λi b' hb'=>by
    have hlt:=h.mpN hb';rw[CX AB];exact FN (h.uI hb hb')) (λ_ b' hb'=>hne b' (λhk=>h.mpB hb' (hk ▸ hb)))
  MQ:=λi b' hb'=>by
   obtain⟨a1,a2,a3⟩:=h.MQ i b' hb';have hne:i≠id:=GK (h.uI hb hb');have hlt:=h.mpN hb';exact⟨(if_neg (Y5 hlt)).trans ((if_neg hne).trans a1),λhd=>hd.elim a2 hne,a3⟩
  Hu:=h.Hu
  Dx:=λi hp=>by
   obtain⟨a,b,c⟩:=h.Dx i hp;have hne:i≠id:=λe=>by grind
   exact⟨AB,(if_neg AA).trans ((if_neg hne).trans b),λhd=>hd.elim c hne⟩
  FL:=λgl row hr j c hj=>by
   obtain⟨v,h1,h2,h3⟩:=h.FL gl row hr j c hj;exact⟨v,h1,by rw[ext.cell _ _ h1]; omega,h3.mono ext.mono ext.cell⟩
  DG:=λgl row hr=>by
   obtain⟨h1,h2⟩:=h.DG gl row hr;exact⟨h1,by rw[ext.cell _ _ h1]; omega⟩ }
theorem Flat.AOL {I:Nat->Nat->Prop} {w:World} {rows:List (List PV)} {k k':Nat} {us:List Value} (e:k=k') (h:Flat I w rows k us):Flat I w rows k' us:=AB
theorem HH {g:AP} {w:World} {t n cap sz:Nat} {b:Nat} {e:TypeId} {rows:List (List PV)} {us:List Value} (hg:g.tok t=some ⟨b,cap,sz,n,e⟩) (hf:Flat g.I w rows sz us)
  (hn:rows.length=n) (hc:n<=cap) (hI:∀o,o<n*sz->g.I b o) (hh:∀q u,us[q]?=some u->w.cell? ⟨b,q,none⟩=some u) :
  V g w (.own t rows) (.slice (some ⟨b,0,none⟩) rows.length cap):=by
 have hra:=hf.iP (b:=b) (o:=0) (λq hq=>by rw[CI]; exact hI q (by rw[<-hn,<-hf.len]; omega)) (λq u hq=>by grind);exact .own hra AA hg AB (λ_=>⟨rfl,rfl,rfl,rfl,rfl⟩)
theorem LF (us vs:List Value) (k:Nat) (h:k+us.length<=vs.length):(CL vs k us).take (k+us.length)=vs.take k++us:=by
 apply FO;intro q;rw[S1];split
 .rename_i hq
  rcases Fq q k with x|x
  .grind[Fg]
  .obtain⟨j,rfl⟩:∃j,q=k+j:=⟨q-k,AA⟩
   grind[HG]
 grind
theorem b9 {P:Program} {w:World} (a:Option Addr) (n c:Nat):(Builtin.lenOf (.slice a n c)).run P w=.ok n w:=AR
theorem VL.one {g:AP} {w:World} {cs:List AV} {vs:List Value} (h:VL g w cs vs) (ho:cs.all A7=true):∀u∈vs,u.oneCell'=true:=by
 intro u hu;obtain⟨j,hj,rfl⟩:=NT.1 hu;have hj':j<cs.length:=by rw[h.len]; omega
 exact Jr (h.at_ j cs[j] _ AD AD) (DE.1 ho cs[j] AD)
theorem OA {E:Env} {L:BI} {g:AP} {w:World} {s s':AQ} (hI:Inv E g w s) {t u T:TypeId} {ts:List TypeId} {d:TypeDesc} {x y v:AV} {xv yv:Value}
  (hx:V g w x xv) (hy:V g w y yv) (hu:E.P.underlying u=some d) (hd:∀k,d≠.int k) (h:JM E.P L s t x y=some (v,s')) :
  ∃v' w' g',(Builtin.append_ (List.toArray (t::u::ts)) T #[xv,yv]).run E.P w=.ok v' w'/\V g' w' v v'/\Ext L g w g' w'/\Inv E g' w' s':=by
 unfold JM at h;split at h
 .rename_i elem ht
  split at h
  .rename_i i hi
   split at h
   .rename_i hz
    obtain⟨hz,hk⟩:=hz
    obtain⟨z,hz1,hz2⟩:∃z,zeroOf E.P elem=some z/\z.length=i.size:=by
     cases hq:zeroOf E.P elem with
     | none=>simp[hq] at hz
     | some z=>simp[hq] at hz; exact⟨z,rfl,hz⟩
    obtain⟨i',zv,hi',pT,_,hzl⟩:=D7 (g:=g) (w:=w) hz1;have:i'=i:=by rw[hi] at hi'; simpa using hi'.symm
    subst this;have hse:D2 E.P elem=some i'.size:=by simp[D2,hi]
    have hzs:zv.cells.size=i'.size:=by rw[<-IW,<-hzl.len]; exact hz2
    split at h
    ·-- nothing is appended
     rename_i hsrc;obtain⟨n,us,hn,E6,hfc,hvl⟩:=Js hI hy hk hsrc
     have hn0:n=0:=by
      rcases Nat.mul_eq_zero.1 E6.symm with x|x
      .exact x
      .exact absurd x hk
     subst hn0;have hus:us=[]:=hvl.GO;subst hus
     have key:∀(base:Option Addr) (len cap:Nat),xv=.slice base len cap->len<=cap ->
       (Builtin.append_ (List.toArray (t::u::ts)) T #[xv,yv]).run E.P w=.ok xv w:=by
      intro base len cap e hle;subst e;rw[run_append_room T ts ht hi hu hd hn (hfc w rfl) AA];cases base <;> rfl
     split at h
     .rename_i id off len sz
      cases hal:Tel.alive s id with
      | false=>grind
      | true=>
       simp only[hal,AN,BN,BT] at h;obtain⟨rfl,rfl⟩:=h;refine⟨xv,w,g,?_,hx,Ext.refl _ _ _,hI⟩;cases hx with
       | JQ hd=>exact absurd hd (hI.alive hal)
       | ref _ hcap=>grind
     grind[Ef,Ext.refl]
    ·-- something is appended
     rename_i c cs hsrc;split at h
     .rename_i hok
      obtain⟨n,us,hn,E6,hfc,hvl⟩:=Js hI hy hk hsrc;have hone:=hvl.one hok;have hdiv:(c::cs).length / i'.size=n:=by grind[Nat.mul_div_cancel]
      have hnp:0<n:=AB;have tN:us.length=n*i'.size:=by rw[<-hvl.len]; omega
      simp only[hdiv] at h;split at h
      .rename_i id off len sz
       split at h
       .rename_i old hold
        split at h
        .rename_i hc
         obtain⟨rfl,rfl,hlo,hal,Qq,Mk,hro⟩:=hc;simp only[BN,BT] at h;obtain⟨rfl,rfl⟩:=h;cases hx with
         | JQ hd=>exact absurd hd (hI.alive hal)
         | @ref _ _ _ _ b cap n' e Il hcap hs hn'=>
          obtain⟨cs',vs,e',k1,k2,kle,k3⟩:=hI.blk id b Il;rw[hold] at k1; simp only[BN] at k1; subst k1;have hsh:vs.length=n':=by rw[Bx k2] at hs; grind
          have k4:VL g w (old.take (len*i'.size)) (vs.take (len*i'.size)):=by
           have:=k3.take (len*i'.size)
           grind
          by_cases hroom:len+n<=cap
          .have hbd:len*i'.size+us.length<=vs.length:=by
            have:=B5 i'.size hroom
            grind
           have hst:=F4 (P:=E.P) (b:=b) (o:=len*i'.size) (e:=e') us 0 w vs hone k2 AA;have WQ:(old.take (len*i'.size)).length=len*i'.size:=AB
           obtain⟨e1,e2⟩:=hI.uN (L:=L) (cs':=old.take (len*i'.size)++(c::cs)) (vs':=CL vs (len*i'.size) us) Il k2 (Bp _ _ _) hro
            (by grind[Bp])
            (by rw[Bo,E6,<-tN,WQ,LF us vs _ hbd]; exact k4.append hvl)
           refine⟨_,_,_,?_,V.ref (b:=b) (e:=e') (n:=n') ?_ hroom ?_ hn',e1,e2⟩
           .simp[*,run_append_room,DT]
           all_goals grind[AP.F5,Bx,Bj,Bp]
          .have hvt:(vs.take (len*i'.size)).length=len*i'.size:=by grind
           have WQ:(old.take (len*i'.size)).length=len*i'.size:=AB;have hos:(Builtin.firstCells i'.size len (.slice (some ⟨b,0,none⟩) len cap)).run E.P (Bd w)=.ok (List.toArray (vs.take (len*i'.size))) (Bd w):=by grind[Builtin.firstCells,Ep,Bd,Bw]
           obtain⟨HT,rest,OU,Sg,hrun⟩:=run_append_grow (base:=some ⟨b,0,none⟩) (sCap:=cap) T ts ht hi hu hd hn (hfc (Bd w) rfl) hos pT AA Qq Mk;obtain⟨e1,i1⟩:=hI.drew (L:=L);obtain⟨e2,i2⟩:=i1.kill (L:=L) Il hro;have hpre:(old.take (len*i'.size)++(c::cs)).length<=(vs.take (len*i'.size)++us++rest).length:=AB
           have XQ:(vs.take (len*i'.size)++us++rest).take (old.take (len*i'.size)++(c::cs)).length=vs.take (len*i'.size)++us:=by
            rw[S5 AB]
           obtain⟨e3,i3⟩:=i2.Tl (L:=L) (cs:=old.take (len*i'.size)++(c::cs)) (vs:=vs.take (len*i'.size)++us++rest) elem hpre (by rw[XQ]; exact((k4.append hvl).mono e1).mono e2);refine⟨_,_,_,hrun,?_,(e1.trans e2).trans e3,i3⟩;refine V.ref (b:=w.heap.size) (e:=elem) (n:=(vs.take (len*i'.size)++us++rest).length) ?_ OU ?_ ?_
           .simp[AP.F5,Bd]
           .exact Bx (by rw[CM]; exact if_pos rfl)
           .simp only[Bo,hvt,tN,Sg,hzs]
            rw[<-EO,<-EO]
            grind
        grind
       grind
      .rename_i rows
       split at h
       .rename_i hc
        obtain⟨Qq,Mk,hall⟩:=hc;have hl:=Lu hall;cases hx with
        | @AE _ base b o sz f hr=>
         obtain⟨os,hfo,_,Ts⟩:=hr.XP hk hl rows.length;obtain⟨HT,rest,OU,Sg,hrun⟩:=run_append_grow (base:=base) (sCap:=rows.length) T ts ht hi hu hd hn (hfc (Bd w) rfl) (Ts E.P (Bd w) rfl) pT AA Qq Mk;obtain⟨e1,i1⟩:=hI.drew (L:=L);cases ZX:L.mu elem with
         | true=>
          simp only[ZX,AN,BN,BT] at h;obtain⟨rfl,rfl⟩:=h;have hvo:=(hfo.vl hk).append hvl;have hlen:(rows.flatten.map AV.pv++(c::cs)).length=(os++us).length:=hvo.len;obtain⟨e3,i3⟩:=i1.Tl (L:=L) (cs:=rows.flatten.map .pv++(c::cs)) (vs:=os++us++rest) elem AB (by rw[hlen,S5 rfl]; exact hvo.mono e1);refine⟨_,_,_,hrun,?_,e1.trans e3,i3⟩;refine V.ref (b:=w.heap.size) (e:=elem) (n:=(os++us++rest).length) ?_ OU ?_ ?_
          .simp[AP.F5,Bd]
          .exact Bx (by rw[CM]; exact if_pos rfl)
          .simp only[Bo,hfo.len,tN,Sg,hzs]
           rw[<-EO,<-EO]
           grind
         | false=>
          simp only[ZX,AL] at h;split at h
          .rename_i ps hps
           simp only[BN,BT] at h;obtain⟨rfl,rfl⟩:=h;obtain⟨q1,q2⟩:=HF hvl hps;have hfn:Flat g.I w (CJ i'.size n ps) i'.size us:=Ik tN q1 q2;have uO:=hfo.append hfn
           have iU:(os++us++rest).length=HT*i'.size:=by
            simp only[Bo,hfo.len,tN,Sg,hzs];rw[<-EO,<-EO];rw[show rows.length+n+(HT-(rows.length+n))=HT by omega]
           obtain⟨e3,i3⟩:=i1.lf (L:=L) (t:=s.ts.length) (e:=elem) iU OU hk hse (.inl ⟨rfl,rfl⟩);have hrl:(rows++CJ i'.size n ps).length=rows.length+n:=by grind[Fi]
           refine⟨_,_,_,hrun,?_,e1.trans e3,i3⟩
           have hV:=HH (g:=g.Gj s.ts.length ⟨(Bd w).heap.size,HT,i'.size,rows.length+n,elem⟩) (w:=Cf (Bd w) (os++us++rest) elem) (t:=s.ts.length) (b:=(Bd w).heap.size) (cap:=HT) (e:=elem)
            (by simp[AP.Gj]) (uO.mono (e1.trans e3).mono (e1.trans e3).cell) hrl OU (λo ho=>.inr ⟨rfl,ho⟩) (λq u hq=>by
             rw[Bw (by rw[CM]; exact if_pos rfl),CX (DF hq)]; omega)
           rw[hrl] at hV;exact hV
          grind
       grind
      .rename_i k rows
       split at h
       .rename_i hc
        obtain⟨Qq,Mk,hts,El,hall⟩:=hc;have hl:=Lu hall;split at h
        .rename_i ps hps
         simp only[BN,BT] at h;obtain⟨rfl,rfl⟩:=h;obtain⟨q1,q2⟩:=HF hvl hps;have hfn:Flat g.I w (CJ i'.size n ps) i'.size us:=Ik tN q1 q2;have hrl:(rows++CJ i'.size n ps).length=rows.length+n:=by grind[Fi]
         cases hx with
         | @own _ _ base b o sz cap f l hr hcap XQ Nk hf=>
          obtain⟨l',ZR,Sd,AYY⟩:=hI.G4 k _ _ hts;have:l'=l:=AB;subst this;obtain⟨rfl,rfl,rfl,rfl,rfl⟩:=hf Sd.symm;obtain⟨os,hfo,hco,Ts⟩:=hr.XP hk hl l'.cap;have uO:=hfo.append hfn;obtain⟨vs,fz,hh,AYa,hnc,hsz,hfz,hsl⟩:=hI.tok k l' XQ;have iV:l'.sz=i'.size:=AB
          by_cases hroom:rows.length+n<=l'.cap
          .have hbd:l'.n*l'.sz+us.length<=vs.length:=by
            have:=B5 i'.size hroom
            grind[Nat.add_mul]
           have hst:=Ff (P:=E.P) (b:=l'.b) (o:=l'.n*l'.sz) (e:=l'.e) hfz us 0 w vs hone hh AA;obtain⟨e3,i3⟩:=hI.ADQ (L:=L) (n:=rows.length+n) (us:=us) XQ hh AA hroom El;have i3':Inv E (g.Gj k { l' with n:=rows.length+n }) (BO w l'.b (CL vs (l'.n*l'.sz) us) l'.e fz) { s with ts:=s.ts.set k (rows.length+n,elem) }:=AB;refine⟨.slice (some ⟨l'.b,0,none⟩) (rows.length+n) l'.cap,_,_,?_,?_,e3,i3'⟩
           .simp_all[run_append_room,DT]
           .have hV:=HH (g:=g.Gj k { l' with n:=rows.length+n }) (w:=BO w l'.b (CL vs (l'.n*l'.sz) us) l'.e fz) (t:=k) (b:=l'.b) (cap:=l'.cap) (sz:=l'.sz) (e:=l'.e)
             (by simp[AP.Gj]) (Flat.AOL iV.symm (uO.mono e3.mono e3.cell)) hrl hroom (λo ho=>.inr ⟨rfl,ho⟩) (λq u hq=>by
              rw[Bw (by rw[Bj,if_pos rfl,if_pos (hI.Hg XQ)])];rcases Fq q os.length with x|x
              .rw[CX x] at hq
               have:=(hco q u hq).2;rw[Bw hh,CI] at this;rw[Fg us vs _ _ (.inl (by rw[Sd,iV,<-hfo.len]; exact x))];omega
              .rw[Ey x] at hq
               have:=HG us vs (l'.n*l'.sz) _ u hq hbd;rw[Sd,iV,<-hfo.len,show os.length+(q-os.length)=q by omega] at this;rw[Sd,iV,<-hfo.len];omega)
            grind
          .obtain⟨HT,rest,OU,Sg,hrun⟩:=run_append_grow (base:=some ⟨l'.b,0,none⟩) (sCap:=l'.cap) T ts ht hi hu hd hn (hfc (Bd w) rfl) (Ts E.P (Bd w) rfl) pT AA Qq Mk
           obtain⟨e1,i1⟩:=hI.drew (L:=L)
           have iU:(os++us++rest).length=HT*i'.size:=by
            simp only[Bo,hfo.len,tN,Sg,hzs];rw[<-EO,<-EO];rw[show rows.length+n+(HT-(rows.length+n))=HT by omega]
           obtain⟨e3,i3⟩:=i1.lf (L:=L) (t:=k) (e:=elem) iU OU hk hse (.inr ⟨l',XQ,AA,El,rfl⟩);refine⟨_,_,_,hrun,?_,e1.trans e3,i3⟩
           have hV:=HH (g:=g.Gj k ⟨(Bd w).heap.size,HT,i'.size,rows.length+n,elem⟩) (w:=Cf (Bd w) (os++us++rest) elem) (t:=k) (b:=(Bd w).heap.size) (cap:=HT) (e:=elem)
            (by simp[AP.Gj]) (uO.mono (e1.trans e3).mono (e1.trans e3).cell) hrl OU (λo ho=>.inr ⟨rfl,ho⟩) (λq u hq=>by
             rw[Bw (by rw[CM]; exact if_pos rfl),CX (DF hq)]; omega)
           rw[hrl] at hV;exact hV
        grind
       grind
      grind
     grind
    grind
   grind
  grind
 grind
end Go.Tel
