/-
  Single operations, part 5: slices made, cut and appended to.
-/
import Derived.Test.YtpgfpakdnijngaaGreatDoorEvB
set_option linter.all false
namespace Go.Tel
theorem Yk {place:Nat->Option (Nat×Nat)} (parts:List (Nat×AV)):∀(cs cs':List AV),MK place cs parts=some cs'->cs'.length=cs.length:=by
 induction parts with
 | nil=>grind[MK]
 | cons p parts ih=>
  grind[MK,FY]
theorem PG {E:Env} {L:BL} {g:AP} {w:World} {s s':AQ} (hI:Inv E g w s) {t:TypeId} {len:Nat} {parts:List (Nat×AV)} {ps:List (Nat×Value)} {v:AV}
  (hk:parts.map (·.1)=ps.map (·.1)) (hv:∀(i:Nat) p q,parts[i]?=some p->ps[i]?=some q->V g w p.2 q.2) (h:G4 E.P L s t len parts=some (v,s')) :
  ∃v' w' g',(Instr.buildSlice t len ps.toArray).run E.P w=.ok v' w'/\V g' w' v v'/\Ext L g w g' w'/\Inv E g' w' s':=by
 unfold G4 at h;split at h
 .rename_i elem hu
  split at h
  .rename_i k z hk' hz
   split at h
   .rename_i hc
    obtain⟨Ma,QO,Vp⟩:=hc;split at h
    .rename_i cs hf
     obtain⟨i,hi,his⟩:=FL hk';obtain⟨i',zv,hi',hz',hrun,hzl⟩:=D8 (g:=g) (w:=w) hz;have hzs:zv.cells.size=k:=by rw[<-IG,<-hzl.len]; omega
     obtain⟨vs',aX,hvl⟩:=OH (place:=λi=>some (i*k,k)) parts hk hv (hzl.Fu len) hf;have Ff:cs.length=len*k:=by grind[Yk,Rb]
     have hlen:vs'.length=len*k:=by rw[<-hvl.len]; omega
     have hr:(Instr.buildSlice t len ps.toArray).run E.P w=.ok (.slice (some ⟨w.heap.size,0,none⟩) len len) (Cb w vs' elem):=by
      simp only[Instr.buildSlice,Sem.run_bind,run_underlying hu,Result.andThen_ok,run_sizeOf hi,his];rw[if_neg AA]
      by_cases hl0:len*k=0
      .have AWy:len=0:=by grind[Nat.mul_eq_zero]
       subst AWy;have AWz:Tel.Fu 0 zv.cells.toList=[]:=rfl;rw[AWz] at aX;simp only[YO,Gs,Sem.run_bind,Sem.run_pure,Result.andThen_ok];rw[show(Array.map (λx=>(#[]:Array Value)[x % (#[]:Array Value).size]!) (Array.range 0))=⟨[]⟩ from by simp,aX];rfl
      .simp only[hl0,I8,Sem.run_bind,hrun,Result.andThen_ok,Sem.run_pure]
       have:=TM zv.cells len AA;rw[hzs] at this ⊢;rw[this,aX];rfl
     cases Yl:(muL L elem&&Nat.blt 0 len) with
     | true=>
      simp only[Yl,AM] at h;simp only[BN,BU] at h;obtain⟨rfl,rfl⟩:=h;obtain⟨e1,e2⟩:=hI.TK (L:=L) elem hvl.full.1 hvl.full.2;refine⟨_,_,_,hr,V.ref (b:=w.heap.size) (e:=elem) (n:=vs'.length) ?_ (AY _) ?_ ?_,e1,e2⟩
      .simp[AP.F3]
      .exact Bv (by rw[CL,if_pos rfl])
      omega
     | false=>
      simp only[Yl,AK] at h;split at h
      .rename_i qs hq
       simp only[BN,BU] at h;obtain⟨rfl,rfl⟩:=h;obtain⟨e1,e2⟩:=hI.ANJ (L:=L) vs' elem;obtain⟨k1,k2⟩:=G5 hvl hq;have ANK:Flat g.I w (CI k len qs) k vs':=IX hlen k1 k2;have AFg:=ANK.mono e1.mono e1.cell
       have hra:=AFg.fY (b:=w.heap.size) (o:=0) (λq _=>.inr rfl) (λq u hq=>by
        rw[Bu (by rw[CL,if_pos rfl])]; grind)
       refine⟨_,_,_,hr,?_,e1,e2⟩
       grind[V.AE,Fe]
      grind
    grind
   grind
  grind
 grind
theorem Inv.alive {E:Env} {g:AP} {w:World} {s:AQ} (h:Inv E g w s) {id:Nat} (ha:Tel.alive s id=true):¬ g.dead id:=λhd=>by
 have:=h.Dn id hd
 grind[Tel.alive]
theorem Qa {E:Env} {P:Program} {g:AP} {w:World} {s:AQ} (hI:Inv E g w s) {t:TypeId} {x ix v:AV} {xv iv:Value} (hx:V g w x xv) (hi:V g w ix iv) (h:Hy P s t x ix=some v) :
  ∃v',(Instr.indexAt t xv iv).run P w=.ok v' w/\V g w v v':=by
 unfold Hy at h
 have hint:∀i,YZ ix=some i->∃k,iv=.int k i:=by
  intro i hi';unfold YZ at hi';split at hi'
  .rename_i k n; simp at hi'; subst hi'; exact⟨k,hi.DC⟩
  grind
 split at h
 .rename_i elem i hu TN
  obtain⟨ik,rfl⟩:=hint i TN;split at h
  .rename_i k hk
   obtain⟨ti,fO,his⟩:=FL hk;split at h
   .rename_i rows hrows
    split at h
    .rename_i h0
     split at h
     .rename_i row hrow
      split at h
      .rename_i hlen
       simp at h; subst h;obtain⟨base,cap,b,o,sz,f,rfl,hcap,hr⟩:=Ed hx hrows;have hsz:sz=k:=by rw[<-hr.hsz row (A3 hrow)]; omega
       subst hsz;have hb:=hr.hbase AB hlen.2;subst hb;have hlt:=DD hrow;refine⟨_,?_,V.Cw (b:=b) (o:=o+i.toNat*sz) 0 (λj=>f i.toNat j) (λj c hj=>⟨(hr.hc _ row j c hrow hj).1,(hr.hc _ row j c hrow hj).2,hr.hv _ row j c hrow hj⟩)⟩;have hi2:i<(rows.length:Int):=AA;simp[*,Instr.indexAt,asIntOf,run_underlying,run_sizeOf,DQ]
      grind
     grind
    grind
   .split at h
    .rename_i id off len sz
     split at h
     .rename_i hb
      obtain⟨hb0,QS,MU,hal⟩:=hb;simp at h; subst h;cases hx with
      | @ref _ _ _ _ b cap n e IY hcap hs hn=>
       simp[*,V.ptr,Instr.indexAt,asIntOf,run_underlying,run_sizeOf,DQ]
      | JI hd=>exact absurd hd (hI.alive hal)
     grind
    grind
  grind
 .rename_i len elem i hu TN
  obtain⟨ik,rfl⟩:=hint i TN;split at h
  .rename_i k hk
   obtain⟨ti,fO,his⟩:=FL hk;split at h
   .rename_i hb
    split at h
    .rename_i id off
     cases hal:Tel.alive s id with
     | false=>grind
     | true=>
     simp[hal] at h; subst h;cases hx with
     | Li hd=>exact absurd hd (hI.alive hal)
     | @ptr _ _ b IY=>
      simp[*,V.ptr,Instr.indexAt,Instr.sureAddr,asIntOf,run_underlying,run_sizeOf,DQ]
    .simp at h; subst h
     cases hx with
     | Dt=>
      simp[*,V.Dt,Instr.indexAt,Instr.sureAddr,asIntOf,run_underlying,run_sizeOf,DQ]
    .simp at h; subst h
     cases hx with
     | @Cw _ b o _ f hr=>
      refine⟨_,?_,V.Cw (b:=b) (o:=o) _ f hr⟩;simp[*,Instr.indexAt,Instr.sureAddr,asIntOf,run_underlying,run_sizeOf,DQ,YP]
    grind
   grind
  grind
 grind
theorem K4 {E:Env} {P:Program} {g:AP} {w:World} {s:AQ} (hI:Inv E g w s) {t:TypeId} {x v:AV} {xv:Value} {fi:Nat} (hx:V g w x xv) (h:Hx P s t x fi=some v) :
  ∃v',(∀w2:World,(Instr.fieldAt t xv fi).run P w2=.ok v' w2)/\V g w v v':=by
 unfold Hx at h;split at h
 .rename_i fields hu
  split at h
  .rename_i f hf
   split at h
   .rename_i k hk
    obtain⟨ti,fO,his⟩:=FL hk;split at h
    .grind
    .rename_i sA
     have hk0':ti.size≠0:=AA;split at h
     .rename_i id off
      cases hal:Tel.alive s id with
      | false=>grind
      | true=>
      simp[hal] at h; subst h;cases hx with
      | Li hd=>exact absurd hd (hI.alive hal)
      | @ptr _ _ b IY=>
       simp[*,V.ptr,Instr.fieldAt,Instr.sureAddr,fieldPlace,run_underlying,run_sizeOf,DQ]
     .simp at h; subst h
      cases hx with
      | Dt=>
       simp[*,V.Dt,Instr.fieldAt,Instr.sureAddr,fieldPlace,run_underlying,run_sizeOf,DQ]
     .simp at h; subst h
      cases hx with
      | @Cw _ b o _ ff hr=>
       refine⟨_,λw2=>?_,V.Cw (b:=b) (o:=o) _ ff hr⟩;simp[*,Instr.fieldAt,Instr.sureAddr,fieldPlace,run_underlying,run_sizeOf,DQ,YP]
     grind
   grind
  grind
 grind
theorem Ym {P:Program} {g:AP} {w:World} {t:TypeId} {x v:AV} {xv:Value} {fi:Nat} (hx:V g w x xv) (h:TH P t x fi=some v) :
  ∃v',(Instr.field t xv fi).run P w=.ok v' w/\V g w v v':=by
 unfold TH at h;split at h
 .rename_i fields cs hu
  split at h
  .rename_i f hf
   obtain⟨vs,rfl,hl⟩:=hx.Yg;obtain⟨v',h1,h2⟩:=Yi (P:=P) hl h;simp[*,Instr.field,run_underlying,asAgg]
  grind
 grind
theorem Vq {P:Program} {α β:Type} {w:World} (f:α->Sem β) (h:α->β) (l:List α) (hf:∀x∈l,(f x).run P w=.ok (h x) w) :
  (l.mapM f).run P w=.ok (l.map h) w:=by
 induction l with
 | nil=>simp
 | cons x l ih=>
  simp_all
theorem TP {P:Program} {α β:Type} {w:World} (f:α->Sem β) (h:α->β) (l:Array α) (hf:∀x∈l.toList,(f x).run P w=.ok (h x) w) :
  (l.mapM f).run P w=.ok (l.map h) w:=by
 rw[j8];simp only[Sem.run_map,Vq f h l.toList hf,Result.andThen_ok];congr 1
 grind
theorem Yn {P:Program} {g:AP} {w:World} {t:TypeId} {parts:List (Nat×AV)} {ps:List (Nat×Value)} {v:AV}
  (hk:parts.map (·.1)=ps.map (·.1)) (hv:∀(i:Nat) p q,parts[i]?=some p->ps[i]?=some q->V g w p.2 q.2) (h:TG P t parts=some v) :
  ∃v',(Instr.build t ps.toArray).run P w=.ok v' w/\V g w v v':=by
 unfold TG at h;split at h
 .rename_i z fields hz hu
  split at h
  .rename_i cs hf
   split at h
   .rename_i hall
    simp at h; subst h;obtain⟨i,zv,hi,oC,hrun,hzl⟩:=D8 (g:=g) (w:=w) hz;obtain⟨vs',aX,hvl⟩:=OH parts hk hv hzl hf;refine⟨.agg ⟨vs'⟩,?_,V.su hvl⟩
    have hmap:(fields.mapM λf=>(do pure (f.offset,<-sizeOf f.type):Sem (Nat×Nat))).run P w=.ok (fields.map λf=>(f.offset,(D2 P f.type).getD 0)) w:=by
     apply TP;intro f hfm;have:=Array.all_eq_true'.1 hall f (Array.mem_toList_iff.1 hfm);cases hs:D2 P f.type with
     | none=>grind
     | some k=>
      obtain⟨ti,fO,his⟩:=FL hs;simp[*,run_sizeOf]
    have AW0:(λi=>(fields.map λf=>(f.offset,(D2 P f.type).getD 0))[i]?)=TF P fields:=by grind[TF]
    simp_all[Instr.build,run_underlying]
   grind
  grind
 .rename_i z n elem hz hu
  split at h
  .rename_i k hk'
   split at h
   .rename_i cs hf
    simp at h; subst h;obtain⟨ti,fO,his⟩:=FL hk';obtain⟨i,zv,hi,oC,hrun,hzl⟩:=D8 (g:=g) (w:=w) hz;obtain⟨vs',aX,hvl⟩:=OH parts hk hv hzl hf;simp[*,V.su,Instr.build,run_underlying,run_sizeOf]
   grind
  grind
 grind
theorem aY {α:Type} {k:Nat} (hk:k≠0) (rows:List (List α)) (h:∀r∈rows,r.length=k):∀q:Nat,rows.flatten[q]?=(rows[q / k]?).bind (λr=>r[q % k]?):=by
 induction rows with
 | nil=>simp
 | cons r rows ih=>
  intro q;have hr:r.length=k:=h r AD;rw[NM];rcases Fl q k with hq|hq
  .grind[Nat.div_eq_of_lt,Nat.mod_eq_of_lt]
  .rw[EO AA,ih (λr hr=>h r AB),hr]
   have e1:q / k=(q-k) / k+1:=Nat.div_eq_sub_div AA hq
   grind[Nat.mod_eq_sub_mod]
theorem Mh {α:Type} {k:Nat} (rows:List (List α)) (h:∀r∈rows,r.length=k):rows.flatten.length=rows.length*k:=by
 induction rows with
 | nil=>simp
 | cons r rows ih=>
  grind
theorem Flat.vl {g:AP} {w:World} {rows:List (List PV)} {k:Nat} {us:List Value} (h:Flat g.I w rows k us) (hk:k≠0):VL g w (rows.flatten.map .pv) us:=by
 refine⟨by rw[Bm,Mh rows h.hsz,h.len],λq c v h1 h2=>?_⟩;rw[FJ,aY hk rows h.hsz] at h1;cases hr:rows[q / k]? with
 | none=>grind
 | some row=>
  cases hj:row[q % k]? with
  | none=>grind
  | some p=>
   simp[hr,hj] at h1; subst h1;obtain⟨u,h3,h4⟩:=h.at_ (q / k) row (q % k) p hr hj;rw[show q / k*k+q % k=q by grind[Nat.div_add_mod]] at h3;rw[h2] at h3; simp at h3; subst h3;exact .pv h4
theorem Ll {rows:List (List PV)} {k:Nat} (h:(rows.all λr=>r.length==k)=true):∀r∈rows,r.length=k:=λr hr=>by grind
theorem ES.Wl {I:Nat->Nat->Prop} {w:World} {rows:List (List PV)} {base:Option Addr} {b o sz k:Nat} {f:Nat->Nat->Value} (h:ES I w rows base b o sz f) (hk:k≠0)
  (hl:∀r∈rows,r.length=k) (cap:Nat):∃us,Flat I w rows k us/\(∀q u,us[q]?=some u->I b (o+q)/\w.cell? ⟨b,o+q,none⟩=some u)/\∀(P:Program) (w':World),w'.heap=w.heap->(Builtin.firstCells k rows.length (.slice base rows.length cap)).run P w'=.ok (List.toArray us) w':=by
 by_cases hne:rows=[]
 .subst hne
  refine⟨[],⟨AD,AD,AD⟩,AD,λP w' _=>?_⟩;cases base with
  | none=>rfl
  | some a=>simp[Builtin.firstCells,loadCells,loadCellsFrom]
 .obtain⟨r,rs,rfl⟩:∃r rs,rows=r::rs:=by cases rows with|nil=>grind|cons r rs=>simp
  have hsk:sz=k:=by rw[<-h.hsz r AD]; grind
  subst hsk;obtain⟨us,hf,hc⟩:=h.flat hk;refine⟨us,hf,hc,λP w' hw'=>?_⟩;rw[h.hbase hne hk];simp only[Builtin.firstCells];rw[<-hf.len]
  grind[Ek,Ck]
theorem Jm {E:Env} {g:AP} {w:World} {s:AQ} (hI:Inv E g w s) {y:AV} {yv:Value} {k:Nat} {cs:List AV} (hy:V g w y yv) (hk:k≠0) (h:C6 s k y=some cs) :
  ∃n us,(Builtin.lenOf yv).run E.P w=.ok n w/\cs.length=n*k/\(∀w',w'.heap=w.heap->(Builtin.firstCells k n yv).run E.P w'=.ok (List.toArray us) w')/\VL g w cs us:=by
 unfold C6 at h;split at h
 .rename_i b
  split at h
  .rename_i TD
   subst TD;simp at h; subst h;have:=hy.DC; subst this;refine⟨b.size,b.data.toList.map λb=>.int .u8 b.toNat,AR,AD,λw' _=>?_,?_⟩
   .simp only[Builtin.firstCells]
    have:b.extract 0 b.size=b:=AD;rw[this,Sem.run_pure];congr 1
    grind
   .refine⟨AD,λi c v h1 h2=>?_⟩
    grind[V.Kc]
  grind
 .rename_i id off len sz
  split at h
  .rename_i bcs hb
   split at h
   .rename_i hc
    obtain⟨Ma,QO,hal⟩:=hc;subst QO;simp at h; subst h;cases hy with
    | JI hd=>exact absurd hd (hI.alive hal)
    | @ref _ _ _ _ b cap n e IY hcap hs hn=>
     obtain⟨cs',vs,e',k1,k2,kle,k3⟩:=hI.blk id b IY;rw[hb] at k1; simp at k1; subst k1;have hvl:=(k3.drop off).take (len*sz);refine⟨len,_,AR,AB,λw' hw'=>?_,hvl⟩;simp only[Builtin.firstCells];have hlen:(((vs.take bcs.length).drop off).take (len*sz)).length=len*sz:=AB
     grind[Ek,Bu]
   grind
  grind
 .split at h
  .rename_i rows hrows
   split at h
   .rename_i hall
    simp only[BN] at h; subst h;have hl:=Ll hall;obtain⟨base,cap,b,o,sz,f,rfl,hcap,hr⟩:=Ed hy hrows;obtain⟨us,hf,_,hrun⟩:=hr.Wl hk hl cap;exact⟨rows.length,us,AR,by grind[Mh],λw' hw'=>hrun E.P w' hw',hf.vl hk⟩
   grind
  grind
theorem run_append_room {P:Program} {w:World} {t u elem:TypeId} {d:TypeDesc} {i:TypeInfo} {base:Option Addr} {sLen sCap n:Nat} {x:Value} {us:List Value} (T:TypeId) (ts:List TypeId)
  (ht:P.underlying t=some (.slice elem)) (hi:P.info? elem=some i) (hu:P.underlying u=some d) (hd:∀k,d≠.int k)
  (hn:(Builtin.lenOf x).run P w=.ok n w) (hf:(Builtin.firstCells i.size n x).run P w=.ok (List.toArray us) w) (hroom:sLen+n<=sCap) :
  (Builtin.append_ (List.toArray (t::u::ts)) T #[.slice base sLen sCap,x]).run P w =
   match base with
   | none=>.ok (.slice base (sLen+n) sCap) w
   | some a=>((storeCells (a.add (sLen*i.size)) us).run P w).andThen λ_ w'=>.ok (.slice base (sLen+n) sCap) w':=by
 simp only[Builtin.append_];simp[run_underlying ht,run_sizeOf hi,run_underlying hu,hn,hroom,hf];cases base <;> simp
theorem oD (newLen:Nat):∀(r c:Nat),Builtin.growBy newLen r c<=max c (newLen+(newLen+768) / 4):=by
 intro r
 induction r with
 | zero=>grind[Builtin.growBy]
 | succ r ih=>
  grind[Builtin.growBy]
theorem nextslicecap_le (need cap:Nat) (h:cap<need):Builtin.nextslicecap need cap<=3*need:=by grind[Builtin.nextslicecap,oD]
def Bb (w:World):World:={ w with drawn:=w.drawn+1 }
theorem run_append_grow {P:Program} {w:World} {t u elem:TypeId} {d:TypeDesc} {i:TypeInfo} {base:Option Addr} {sLen sCap n:Nat} {x zv:Value} {us os:List Value} (T:TypeId) (ts:List TypeId)
  (ht:P.underlying t=some (.slice elem)) (hi:P.info? elem=some i) (hu:P.underlying u=some d) (hd:∀k,d≠.int k)
  (hn:(Builtin.lenOf x).run P w=.ok n w) (hf:(Builtin.firstCells i.size n x).run P (Bb w)=.ok (List.toArray us) (Bb w))
  (ho:(Builtin.firstCells i.size sLen (.slice base sLen sCap)).run P (Bb w)=.ok (List.toArray os) (Bb w)) (hz:i.zero=some zv)
  (hroom:sCap<sLen+n) (QS:(sLen+n)*i.bytes<=2 ^ 45) (MU:sLen+n<=2 ^ 45) :
  ∃cap rest,sLen+n<=cap/\rest.length=(cap-(sLen+n))*zv.cells.size /\
   (Builtin.append_ (List.toArray (t::u::ts)) T #[.slice base sLen sCap,x]).run P w=.ok (.slice (some ⟨w.heap.size,0,none⟩) (sLen+n) cap) (Cb (Bb w) (os++us++rest) elem):=by
 have hcap:¬ (2 ^ 48<Builtin.nextslicecap (sLen+n) sCap*i.bytes):=by
  have:=nextslicecap_le (sLen+n) sCap hroom;have:=B5 i.bytes this
  grind
 have AW1:¬ (IntKind.i64.max<((sLen:Int)+(n:Int))):=by
  have:IntKind.i64.max=9223372036854775807:=rfl;omega
 have hzero:(zeroValue elem).run P (Bb w)=.ok zv (Bb w):=by simp[*,zeroValue,run_typeInfo]
 refine⟨(sLen+n)+w.tape w.drawn (.appendCap (sLen+n) sCap elem) % (2 ^ 63-(sLen+n)),(Builtin.zeroCells zv.cells ((sLen+n)+w.tape w.drawn (.appendCap (sLen+n) sCap elem) % (2 ^ 63-(sLen+n))-(sLen+n))).toList,NN _ _,?_,?_⟩
 .simp[Builtin.zeroCells]
 .simp only[Builtin.append_]
  simp[run_underlying ht,run_sizeOf hi,run_underlying hu,hn,run_typeInfo hi,Question.forced,Question.cut];rw[if_neg AA,if_neg AA,if_neg hcap];have hf':=hf;have ho':=ho;have hzero':=hzero;unfold Bb at hf' ho' hzero';simp[ho',hf',hzero',newRow,Cb,Bb];congr 2;simp
theorem Inv.drew {E:Env} {L:BL} {g:AP} {w:World} {s:AQ} (h:Inv E g w s):Ext L g w g (Bb w)/\Inv E g (Bb w) s:=by
 have ext:Ext L g w g (Bb w):=
  ⟨rfl,rfl,rfl,AY _,λ_ _ h=>h,λ_ _ _=>rfl,λ_ _ h=>.inl h,λ_ h=>h,λ_ _ _ _=>rfl,λ_ l h=>⟨l,h,.inl rfl⟩,λ_ _ h _=>⟨h,rfl⟩,
   λ_ _ h _=>⟨h,rfl,λ_ h=>h⟩,λ_ _ _ _ _=>⟨rfl,λ_ h=>h⟩,λ_ _ h=>h,λ_ _ _=>⟨λ_=>rfl,λ_ h=>h⟩,λid _ h _=>⟨id,h⟩,λid _ h _=>⟨id,h⟩,λ_ l h _=>⟨l,h,rfl⟩,λ_ h=>h⟩
 refine⟨ext,?_⟩
 exact { h with
  blk:=λid b hb=>by
   obtain⟨cs,vs,e,h1,h2,h3,h4⟩:=h.blk id b hb;exact⟨cs,vs,e,h1,h2,h3,h4.mono ext⟩
  Fv:=λgl row hr j c hj=>by
   obtain⟨v,h1,h2,h3⟩:=h.Fv gl row hr j c hj;exact⟨v,h1,h2,h3.mono ext.mono ext.cell⟩
  Dc:=λgl row hr=>by
   obtain⟨h1,h2⟩:=h.Dc gl row hr;exact⟨h1,h2⟩ }
def AP.Gf (g:AP) (t:Nat) (l:QY):AP:=
 {g with tok:=λk=>if k=t then some l else g.tok k,I:=λb o=>g.I b o\/(b=l.b/\o<l.n*l.sz) }
theorem Inv.kM {E:Env} {L:BL} {g:AP} {w:World} {s:AQ} (h:Inv E g w s) {t cap sz n:Nat} {vs:List Value} {e:TypeId} {ts':List (Nat×Nat)}
  (hv:vs.length=cap*sz) (hn:n<=cap) (hsz:sz≠0) (hse:D2 E.P e=some sz)
  (ht:(t=s.ts.length/\ts'=s.ts++[(n,e)])\/(∃l,g.tok t=some l/\l.n<n/\L.rt<=t/\ts'=s.ts.set t (n,e))) :
  Ext L g w (g.Gf t ⟨w.heap.size,cap,sz,n,e⟩) (Cb w vs e)/\Inv E (g.Gf t ⟨w.heap.size,cap,sz,n,e⟩) (Cb w vs e) { s with ts:=ts' }:=by
 have hs:(Cb w vs e).heap.size=w.heap.size+1:=by simp[Cb]
 have hnone:∀k l,g.tok k=some l->k<s.ts.length:=λk l hl=>DD (h.Gy k l hl)
 have Yo:∀k,k≠t->(g.Gf t ⟨w.heap.size,cap,sz,n,e⟩).tok k=g.tok k:=λk hk=>by grind[AP.Gf]
 have MN:(g.Gf t ⟨w.heap.size,cap,sz,n,e⟩).tok t=some ⟨w.heap.size,cap,sz,n,e⟩:=by simp[AP.Gf]
 have hts:∀k,k≠t->ts'[k]?=s.ts[k]?\/(k>=s.ts.length/\ts'[k]?=none):=AB;have htt:ts'[t]?=some (n,e):=AB;have inv:∀k l,(g.Gf t ⟨w.heap.size,cap,sz,n,e⟩).tok k=some l->(k=t/\l=⟨w.heap.size,cap,sz,n,e⟩)\/(k≠t/\g.tok k=some l):=λk l hl=>by grind
 have ext:Ext L g w (g.Gf t ⟨w.heap.size,cap,sz,n,e⟩) (Cb w vs e):={
  os:=rfl,tape:=rfl,output:=rfl,size:=AA
  mono:=λ_ _ hi=>.inl hi
  cell:=λk o hi=>Ck (BG (h.Kf k o hi)) o
  blk:=λ_ _ hb=>.inl hb
  dead:=λ_ hd=>hd
  shape:=λid b hb _=>ED (BG (h.FI hb))
  tok:=λk l hl=>by grind
  Ga:=λid b hb _=>⟨hb,BG (h.FI hb)⟩
  F0:=λk l hl hlt=>by
   have hk:k≠t:=λe=>by grind
   exact⟨AB,BG (h.HU hl),λo ho=>ho.resolve_right (λe=>by have:=h.HU hl; grind)⟩
  out:=λk hk _ _ _=>⟨BG hk,λo ho=>ho.resolve_right (λe=>by grind)⟩
  mp:=λ_ _ hb=>hb
  F1:=λ_ b' hb'=>⟨λ_=>BG (h.PD hb'),λo ho=>ho.resolve_right (λe=>by have:=h.PD hb'; grind)⟩
  K2:=λid' _ hb _=>⟨id',hb⟩
  HR:=λid _ hb _=>⟨id,hb⟩
  DJ:=λ_ h=>h
  K3:=λk l hl hlt=>by grind }
 refine⟨ext,?_⟩
 exact {
  Ex:=h.Ex
  Dm:=h.Dm
  Dn:=h.Dn
  blk:=λid b hb=>by
   obtain⟨cs',us,e',h1,h2,h3,h4⟩:=h.blk id b hb;exact⟨cs',us,e',h1,by grind[BG],h3,h4.mono ext⟩
  GO:=λid b o hb hi=>by
   rcases hi with hi|hi
   .exact h.GO id b o hb hi
   .have:=h.FI hb; grind
  Gx:=λk m q hk=>by
   by_cases e:k=t
   .grind
   .rw[Yo k e]
    rcases hts k e with x|⟨_,x⟩
    .rw[x] at hk; exact h.Gx k m q hk
    grind
  Gy:=λk l hl=>by
   rcases inv k l hl with ⟨rfl,rfl⟩|⟨hk,hl⟩
   .omega
   .rcases hts k hk with x|⟨x,_⟩
    .rw[x]; exact h.Gy k l hl
    grind
  tok:=λk l hl=>by
   rcases inv k l hl with ⟨_,rfl⟩|⟨_,hl⟩
   .grind[CL]
   .obtain⟨us,e',h1,h2⟩:=h.tok k l hl
    grind[BG]
  HG:=λk l o hl hle hi=>by
   rcases inv k l hl with ⟨_,rfl⟩|⟨_,hl⟩
   .rcases hi with hi|hi
    .have:=h.Kf _ o hi; grind
    omega
   .rcases hi with hi|hi
    .exact h.HG k l o hl hle hi
    .have:=h.HU hl; grind
  FF:=h.FF
  Ge:=λk k' l l' hl hl' he=>by
   rcases inv k l hl with ⟨e1,rfl⟩|⟨_,hl⟩
   .rcases inv k' l' hl' with ⟨e2,_⟩|⟨_,hl'⟩
    .rw[e1,e2]
    .have:=h.HU hl'; grind
   .rcases inv k' l' hl' with ⟨_,rfl⟩|⟨_,hl'⟩
    .have:=h.HU hl; grind
    .exact h.Ge k k' l l' hl hl' he
  DL:=λid b k l hb hl=>by
   rcases inv k l hl with ⟨_,rfl⟩|⟨_,hl⟩
   .have:=h.FI hb; grind
   .exact h.DL id b k l hb hl
  Kf:=λk o hi=>by
   rw[hs];rcases hi with hi|hi
   .have:=h.Kf k o hi; omega
   grind
  Ec:=h.Ec
  mp:=h.Iv (λ_ _ _=>rfl) (λ_ _ hb'=>BG (h.PD hb'))
  MM:=h.MM
  Ho:=h.Ho
  Dw:=h.Dw
  Fv:=λgl row hr j c hj=>by
   obtain⟨v,h1,h2,h3⟩:=h.Fv gl row hr j c hj;exact⟨v,.inl h1,by rw[ext.cell _ _ h1]; omega,h3.mono ext.mono ext.cell⟩
  Dc:=λgl row hr=>by
   obtain⟨h1,h2⟩:=h.Dc gl row hr;exact⟨.inl h1,by rw[ext.cell _ _ h1]; omega⟩ }
theorem Fa (us:List Value):∀(vs:List Value) (k q:Nat),(q<k\/k+us.length<=q)->(CJ vs k us)[q]?=vs[q]?:=by
 induction us with
 | nil=>intro vs k q _; rfl
 | cons u us ih=>
  grind[CJ]
theorem G6 (us:List Value):∀(vs:List Value) (k q:Nat) (u:Value),us[q]?=some u->k+us.length<=vs.length->(CJ vs k us)[k+q]?=some u:=by
 induction us with
 | nil=>simp
 | cons x us ih=>
  intro vs k q u h hle;simp only[Bt] at hle;cases q with
  | zero=>
   grind[CJ,Fa]
  | succ q=>
   simp at h;rw[CJ,show k+(q+1)=k+1+q by omega];exact ih _ _ _ _ h AB
theorem Inv.ACW {E:Env} {L:BL} {g:AP} {w:World} {s:AQ} (h:Inv E g w s) {t n:Nat} {l:QY} {vs us:List Value} {fz:Nat×Nat} (hl:g.tok t=some l)
  (hh:w.heap[l.b]?=some (.cells ⟨vs⟩ l.e fz)) (hlt:l.n<n) (hle:n<=l.cap) (Ee:L.rt<=t) :
  Ext L g w (g.Gf t { l with n:=n }) (BO w l.b (CJ vs (l.n*l.sz) us) l.e fz)/\Inv E (g.Gf t { l with n:=n }) (BO w l.b (CJ vs (l.n*l.sz) us) l.e fz) { s with ts:=s.ts.set t (n,l.e) }:=by
 have hb:=h.HU hl;have hne:∀k,k≠l.b->(BO w l.b (CJ vs (l.n*l.sz) us) l.e fz).heap[k]?=w.heap[k]?:=λk hk=>by grind[Bh]
 have rz:(BO w l.b (CJ vs (l.n*l.sz) us) l.e fz).heap[l.b]?=some (.cells ⟨CJ vs (l.n*l.sz) us⟩ l.e fz):=by grind[Bh]
 have hs:(BO w l.b (CJ vs (l.n*l.sz) us) l.e fz).heap.size=w.heap.size:=by simp[BO]
 obtain⟨vs0,fz0,hh0,hlen,hn0,hsz,ANL,hse⟩:=h.tok t l hl;have hvs:vs0=vs/\fz0=fz:=AB;rw[hvs.1] at hlen;rw[hvs.2] at ANL;have hnt:t<s.ts.length:=DD (h.Gy t l hl);have Yo:∀k,k≠t->(g.Gf t { l with n:=n }).tok k=g.tok k:=λk hk=>by grind[AP.Gf]
 have MN:(g.Gf t { l with n:=n }).tok t=some { l with n:=n }:=by simp[AP.Gf]
 have inv:∀k l',(g.Gf t { l with n:=n }).tok k=some l'->(k=t/\l'={ l with n:=n })\/(k≠t/\g.tok k=some l'):=λk l' hl'=>by grind
 have AFh:∀b o,g.I b o->(BO w l.b (CJ vs (l.n*l.sz) us) l.e fz).cell? ⟨b,o,none⟩=w.cell? ⟨b,o,none⟩:=λb o hi=>by
  by_cases hk:b=l.b
  .subst hk
   have:o<l.n*l.sz:=by
    rcases Fl o (l.n*l.sz) with x|x
    .exact x
    .exact absurd hi (h.HG t l o hl x)
   rw[Bu rz,Bu hh,Fa us vs _ _ (.inl this)]
  grind[Ck]
 have ext:Ext L g w (g.Gf t { l with n:=n }) (BO w l.b (CJ vs (l.n*l.sz) us) l.e fz):={
  os:=rfl,tape:=rfl,output:=rfl,size:=AA
  mono:=λ_ _ hi=>.inl hi
  cell:=AFh
  blk:=λ_ _ hb=>.inl hb
  dead:=λ_ hd=>hd
  shape:=λid b hb _=>ED (hne b (h.DL id b t l hb hl))
  tok:=λk l' hl'=>by grind
  Ga:=λid b hb _=>⟨hb,hne b (h.DL id b t l hb hl)⟩
  F0:=λk l' hl' hk'=>by
   have hk:k≠t:=λe=>by omega
   have Yp:l'.b≠l.b:=λe=>hk (h.Ge k t l' l hl' hl e)
   exact⟨AB,hne _ Yp,λo ho=>ho.resolve_right (λe=>Yp e.1)⟩
  out:=λk hk _ h2 _=>⟨hne k (λe=>h2 t l hl e.symm),λo ho=>ho.resolve_right (λe=>h2 t l hl e.1.symm)⟩
  mp:=λ_ _ hb=>hb
  F1:=λ_ b' hb'=>⟨λ_=>hne b' (h.mpT hb' hl),λo ho=>ho.resolve_right (λe=>h.mpT hb' hl e.1)⟩
  K2:=λid' _ hb _=>⟨id',hb⟩
  HR:=λid _ hb _=>⟨id,hb⟩
  DJ:=λ_ h=>h
  K3:=λk l' hl' _=>by grind }
 refine⟨ext,?_⟩
 exact {
  Ex:=h.Ex
  Dm:=h.Dm
  Dn:=h.Dn
  blk:=λid b hb=>by
   obtain⟨cs',us',e',h1,h2,h3,h4⟩:=h.blk id b hb;exact⟨cs',us',e',h1,by rw[hne b (h.DL id b t l hb hl)]; omega,h3,h4.mono ext⟩
  GO:=λid b o hb hi=>by
   rcases hi with hi|hi
   .exact h.GO id b o hb hi
   .exact h.DL id b t l hb hl hi.1
  Gx:=λk m q hk=>by
   by_cases e:k=t
   .grind
   .rw[Yo k e]; simp only[GJ (GK e)] at hk; exact h.Gx k m q hk
  Gy:=λk l' hl'=>by
   rcases inv k l' hl' with ⟨rfl,rfl⟩|⟨hk,hl'⟩
   .grind
   .simp only[GJ (GK hk)]; exact h.Gy k l' hl'
  tok:=λk l' hl'=>by
   rcases inv k l' hl' with ⟨_,rfl⟩|⟨hk,hl'⟩
   .exact⟨_,fz,rz,by grind[Bn],hle,hsz,BK ANL (B5 _ (Nat.le_of_lt hlt)),hse⟩
   .obtain⟨us',e',h1,h2⟩:=h.tok k l' hl'
    exact⟨us',e',by rw[hne _ (λe=>hk (h.Ge k t l' l hl' hl e))]; omega,h2⟩
  HG:=λk l' o hl' hle' hi=>by
   rcases inv k l' hl' with ⟨_,rfl⟩|⟨hk,hl'⟩
   .rcases hi with hi|hi
    .exact h.HG t l o hl (by simp only at hle'; have:=B5 l.sz (Nat.le_of_lt hlt); omega) hi
    omega
   .rcases hi with hi|hi
    .exact h.HG k l' o hl' hle' hi
    .exact hk (h.Ge k t l' l hl' hl hi.1)
  FF:=h.FF
  Ge:=λk k' l1 l2 h1 h2 he=>by
   rcases inv k l1 h1 with ⟨e1,rfl⟩|⟨_,h1⟩
   .rcases inv k' l2 h2 with ⟨e2,_⟩|⟨_,h2⟩
    .rw[e1,e2]
    .rw[e1]; exact h.Ge t k' l l2 hl h2 he
   .rcases inv k' l2 h2 with ⟨e2,rfl⟩|⟨_,h2⟩
    .rw[e2]; exact h.Ge k t l1 l h1 hl he
    .exact h.Ge k k' l1 l2 h1 h2 he
  DL:=λid b k l' hb hl'=>by
   rcases inv k l' hl' with ⟨_,rfl⟩|⟨_,hl'⟩
   .exact h.DL id b t l hb hl
   .exact h.DL id b k l' hb hl'
  Kf:=λk o hi=>by
   rw[hs];rcases hi with hi|hi
   .exact h.Kf k o hi
   grind
  Ec:=h.Ec
  mp:=h.Iv (λ_ _ _=>rfl) (λ_ b' hb'=>hne b' (h.mpT hb' hl))
  MM:=h.MM
  Ho:=h.Ho
  Dw:=h.Dw
  Fv:=λgl row hr j c hj=>by
   obtain⟨v,h1,h2,h3⟩:=h.Fv gl row hr j c hj;exact⟨v,.inl h1,AB,h3.mono ext.mono ext.cell⟩
  Dc:=λgl row hr=>by
   obtain⟨h1,h2⟩:=h.Dc gl row hr;exact⟨.inl h1,AB⟩ }
def AP.kill (g:AP) (id:Nat):AP:=
 {g with blk:=λi=>if i=id then none else g.blk i,dead:=λi=>g.dead i\/i=id,
         hd:=λi (hi:g.dead i\/i=id)=>(if e:i=id then if_pos e else(if_neg e).trans (g.hd i (hi.resolve_right e)):(if i=id then none else g.blk i)=none) }
theorem Inv.kill {E:Env} {L:BL} {g:AP} {w:World} {s:AQ} (h:Inv E g w s) {id b:Nat} (hb:g.blk id=some b) (hro:L.ro<=id) :
  Ext L g w (g.kill id) w/\Inv E (g.kill id) w { s with bs:=s.bs.set id [] }:=by
 have inv:∀i b',(g.kill id).blk i=some b'->i≠id/\g.blk i=some b':=λi b' hi=>by grind[AP.kill]
 have ext:Ext L g w (g.kill id) w:={
  os:=rfl,tape:=rfl,output:=rfl,size:=AY _
  mono:=λ_ _ hi=>hi
  cell:=λ_ _ _=>rfl
  blk:=λi b' hi=>by grind[AP.kill]
  dead:=λ_ hd=>.inl hd
  shape:=λ_ _ _ _=>rfl
  tok:=λ_ l hl=>⟨l,hl,.inl rfl⟩
  Ga:=λi b' hi hlt=>⟨by grind[AP.kill],rfl⟩
  F0:=λ_ _ hl _=>⟨hl,rfl,λ_ ho=>ho⟩
  out:=λ_ _ _ _ _=>⟨rfl,λ_ ho=>ho⟩
  mp:=λ_ _ hb=>hb
  F1:=λ_ _ _=>⟨λ_=>rfl,λ_ ho=>ho⟩
  K2:=λid' _ hb _=>⟨id',hb⟩
  HR:=λi b' hi _=>⟨i,(inv i b' hi).2⟩
  DJ:=λ_ h=>h
  K3:=λ_ l hl _=>⟨l,hl,rfl⟩ }
 refine⟨ext,?_⟩
 exact {
  Ex:=λi b' hi=>by simpa using h.Ex i b' (inv i b' hi).2
  Dm:=λi hd=>by
   rcases hd with hd|rfl
   .simpa using h.Dm i hd
   .simpa using h.Ex _ b hb
  Dn:=λi hd=>by
   by_cases e:i=id
   .subst e; simp[h.Ex _ b hb]
   .rcases hd with hd|hd
    .simp only[GJ (GK e)]; exact h.Dn i hd
    omega
  blk:=λi b' hi=>by
   obtain⟨e,hi⟩:=inv i b' hi;obtain⟨cs,vs,e',h1,h2,h3,h4⟩:=h.blk i b' hi;exact⟨cs,vs,e',AB,h2,h3,h4.mono ext⟩
  GO:=λi b' o hi=>h.GO i b' o (inv i b' hi).2
  Gx:=h.Gx
  Gy:=h.Gy
  tok:=h.tok
  HG:=h.HG
  FF:=λi j b' hi hj=>h.FF i j b' (inv i b' hi).2 (inv j b' hj).2
  Ge:=h.Ge
  DL:=λi b' t l hi hl=>h.DL i b' t l (inv i b' hi).2 hl
  Kf:=h.Kf
  Ec:=λi hi=>by
   by_cases e:i=id
   .exact .inr (.inl (.inr e))
   .rcases h.Ec i AB with ⟨b',hb'⟩|q|q
    .exact .inl ⟨b',(if_neg e).trans hb'⟩
    .exact .inr (.inl (.inl q))
    .exact .inr (.inr q)
  mp:=h.Iv (λ_ _ hb'=>GJ (h.sq hb hb')) (λ_ _ _=>rfl)
  MM:=λi b' hb'=>by
   obtain⟨a1,a2,a3⟩:=h.MM i b' hb';have hne:i≠id:=GK (h.sq hb hb');exact⟨(if_neg hne).trans a1,λhd=>hd.elim a2 hne,a3⟩
  Ho:=h.Ho
  Dw:=λi hp=>by
   obtain⟨a,b,c⟩:=h.Dw i hp;have hne:i≠id:=λe=>by grind
   exact⟨AB,(if_neg hne).trans b,λhd=>hd.elim c hne⟩
  Fv:=λgl row hr j c hj=>by
   obtain⟨v,h1,h2,h3⟩:=h.Fv gl row hr j c hj;exact⟨v,h1,h2,h3.mono ext.mono ext.cell⟩
  Dc:=λgl row hr=>by
   obtain⟨h1,h2⟩:=h.Dc gl row hr;exact⟨h1,h2⟩ }
theorem Inv.TQ {E:Env} {g:AP} {w:World} {s:AQ} (h:Inv E g w s) {id b:Nat} (hb:g.blk id=some b):¬ (g.kill id).dead s.bs.length:=λhd=>by
 rcases hd with hd|hd
 .have:=h.Dm _ hd; omega
 .have:=h.Ex id b hb; omega
theorem Inv.s7 {E:Env} {L:BL} {g:AP} {w:World} {s:AQ} (h:Inv E g w s) {id b:Nat} {cs':List AV} {vs vs':List Value} {e:TypeId}
  (hb:g.blk id=some b) (hh:w.heap[b]?=some (.cells ⟨vs⟩ e (0,0))) (hvl:vs'.length=vs.length) (hro:L.ro<=id) (hle:cs'.length<=vs'.length) (hl:VL g w cs' (vs'.take cs'.length)) :
  Ext L g w ((g.kill id).F3 s.bs.length b (h.TQ hb)) (BO w b vs' e)/\Inv E ((g.kill id).F3 s.bs.length b (h.TQ hb)) (BO w b vs' e) { s with bs:=s.bs.set id []++[cs'] }:=by
 have hlt:=h.FI hb;have hidl:=h.Ex id b hb;have hne:∀k,k≠b->(BO w b vs' e).heap[k]?=w.heap[k]?:=λk hk=>by grind[Bh]
 have rz:(BO w b vs' e).heap[b]?=some (.cells ⟨vs'⟩ e (0,0)):=by grind[Bh]
 have hsz:(BO w b vs' e).heap.size=w.heap.size:=by simp[BO]
 have inv:∀i b',((g.kill id).F3 s.bs.length b (h.TQ hb)).blk i=some b'->(i=s.bs.length/\b'=b)\/(i≠id/\i≠s.bs.length/\g.blk i=some b'):=λi b' hi=>by
  simp only[AP.F3,AP.kill] at hi
  grind
 have keep:∀i b',g.blk i=some b'->i≠id->((g.kill id).F3 s.bs.length b (h.TQ hb)).blk i=some b':=λi b' hi e=>by
  have:=h.Ex i b' hi;have e2:i≠s.bs.length:=AA;simp[*,AP.F3,AP.kill]
 have ext:Ext L g w ((g.kill id).F3 s.bs.length b (h.TQ hb)) (BO w b vs' e):={
  os:=rfl,tape:=rfl,output:=rfl,size:=AA
  mono:=λ_ _ hi=>hi
  cell:=λk o hi=>Ck (hne k (λhk=>h.GO id b o hb (hk ▸ hi))) o
  blk:=λi b' hi=>by
   by_cases e:i=id
   .exact .inr (.inr e)
   grind
  dead:=λ_ hd=>.inl hd
  shape:=λi b' hi hi'=>by
   by_cases hk:b'=b
   .subst hk; rw[Bv rz,Bv hh,hvl]
   grind[ED]
  tok:=λ_ l hl=>⟨l,hl,.inl rfl⟩
  Ga:=λi b' hi hlt'=>by
   have e:i≠id:=AA;exact⟨keep i b' hi e,hne b' (λhk=>e (h.FF i id b' hi (hk ▸ hb)))⟩
  F0:=λt l hl _=>⟨hl,hne _ (λhk=>h.DL id b t l hb hl hk.symm),λ_ ho=>ho⟩
  out:=λk _ h1 _ _=>⟨hne k (λhk=>h1 id (hk ▸ hb)),λ_ ho=>ho⟩
  mp:=λ_ _ hb=>hb
  F1:=λ_ b' hb'=>⟨λ_=>hne b' (λhk=>h.mpB hb' (hk ▸ hb)),λ_ ho=>ho⟩
  K2:=λid' _ hb _=>⟨id',hb⟩
  HR:=λi b' hi _=>by grind
  DJ:=λ_ h=>h
  K3:=λ_ l hl _=>⟨l,hl,rfl⟩ }
 refine⟨ext,?_⟩
 exact {
  Ex:=λi b' hi=>by
   rcases inv i b' hi with ⟨rfl,_⟩|⟨_,_,hi⟩
   .simp
   .have:=h.Ex i b' hi; grind
  Dm:=λi hd=>by
   rcases hd with hd|rfl
   .have:=h.Dm i hd; grind
   grind
  Dn:=λi hd=>by
   have hlt:i<s.bs.length:=by
    rcases hd with hd|rfl
    .exact h.Dm i hd
    omega
   rw[CT AB]
   by_cases e:i=id
   .grind
   .rcases hd with hd|hd
    .simp only[GJ (GK e)]; exact h.Dn i hd
    omega
  blk:=λi b' hi=>by
   rcases inv i b' hi with ⟨rfl,rfl⟩|⟨e1,_,hi⟩
   .exact⟨cs',vs',e,AD,rz,hle,hl.mono ext⟩
   .obtain⟨cs,us,e',h1,h2,h3,h4⟩:=h.blk i b' hi
    exact⟨cs,us,e',AB,
     by rw[hne b' (λhk=>e1 (h.FF i id b' hi (hk ▸ hb)))]; omega,h3,h4.mono ext⟩
  GO:=λi b' o hi=>by
   rcases inv i b' hi with ⟨_,rfl⟩|⟨_,_,hi⟩
   .exact h.GO id _ o hb
   .exact h.GO i b' o hi
  Gx:=h.Gx
  Gy:=h.Gy
  tok:=λt l hl=>by
   obtain⟨us,e',h1,h2⟩:=h.tok t l hl
   grind
  HG:=h.HG
  FF:=λi j b' hi hj=>by
   rcases inv i b' hi with ⟨e1,e2⟩|⟨e1,e2,hi⟩
   .rcases inv j b' hj with ⟨e3,_⟩|⟨e3,e4,hj'⟩
    .rw[e1,e3]
    .exact absurd (h.FF j id b' hj' (by rw[hb,e2])) e3
   .rcases inv j b' hj with ⟨e3,e4⟩|⟨e3,e4,hj'⟩
    .exact absurd (h.FF i id b' hi (by rw[hb,e4])) e1
    .exact h.FF i j b' hi hj'
  Ge:=h.Ge
  DL:=λi b' t l hi hl=>by
   rcases inv i b' hi with ⟨_,rfl⟩|⟨_,_,hi⟩
   .exact h.DL id _ t l hb hl
   .exact h.DL i b' t l hi hl
  Kf:=λk o hi=>by rw[hsz]; exact h.Kf k o hi
  Ec:=λi hi=>by
   by_cases e:i=s.bs.length
   .exact .inl ⟨_,if_pos e⟩
   by_cases e2:i=id
   .exact .inr (.inl (.inr e2))
   .rcases h.Ec i AB with ⟨b',hb'⟩|q|q
    .grind
    .exact .inr (.inl (.inl q))
    .exact .inr (.inr q)
  mp:=h.Iv (λi b' hb'=>by
    have hlt:=h.mpN hb';rw[CT AB];exact GJ (h.sq hb hb')) (λ_ b' hb'=>hne b' (λhk=>h.mpB hb' (hk ▸ hb)))
  MM:=λi b' hb'=>by
   obtain⟨a1,a2,a3⟩:=h.MM i b' hb';have hne:i≠id:=GK (h.sq hb hb');have hlt:=h.mpN hb';exact⟨(if_neg (YM hlt)).trans ((if_neg hne).trans a1),λhd=>hd.elim a2 hne,a3⟩
  Ho:=h.Ho
  Dw:=λi hp=>by
   obtain⟨a,b,c⟩:=h.Dw i hp;have hne:i≠id:=λe=>by grind
   exact⟨AB,(if_neg AA).trans ((if_neg hne).trans b),λhd=>hd.elim c hne⟩
  Fv:=λgl row hr j c hj=>by
   obtain⟨v,h1,h2,h3⟩:=h.Fv gl row hr j c hj;exact⟨v,h1,by rw[ext.cell _ _ h1]; omega,h3.mono ext.mono ext.cell⟩
  Dc:=λgl row hr=>by
   obtain⟨h1,h2⟩:=h.Dc gl row hr;exact⟨h1,by rw[ext.cell _ _ h1]; omega⟩ }
theorem Flat.ANM {I:Nat->Nat->Prop} {w:World} {rows:List (List PV)} {k k':Nat} {us:List Value} (e:k=k') (h:Flat I w rows k us):Flat I w rows k' us:=AB
theorem G7 {g:AP} {w:World} {t n cap sz:Nat} {b:Nat} {e:TypeId} {rows:List (List PV)} {us:List Value} (hg:g.tok t=some ⟨b,cap,sz,n,e⟩) (hf:Flat g.I w rows sz us)
  (hn:rows.length=n) (hc:n<=cap) (hI:∀o,o<n*sz->g.I b o) (hh:∀q u,us[q]?=some u->w.cell? ⟨b,q,none⟩=some u) :
  V g w (.own t rows) (.slice (some ⟨b,0,none⟩) rows.length cap):=by
 have hra:=hf.fY (b:=b) (o:=0) (λq hq=>by rw[CQ]; exact hI q (by rw[<-hn,<-hf.len]; omega)) (λq u hq=>by grind);exact .own hra AA hg AB (λ_=>⟨rfl,rfl,rfl,rfl,rfl⟩)
theorem K5 (us vs:List Value) (k:Nat) (h:k+us.length<=vs.length):(CJ vs k us).take (k+us.length)=vs.take k++us:=by
 apply Fm;intro q;rw[Ou];split
 .rename_i hq
  rcases Fl q k with x|x
  .grind[Fa]
  .obtain⟨j,rfl⟩:∃j,q=k+j:=⟨q-k,AA⟩
   grind[G6]
 grind
theorem aZ {P:Program} {w:World} (a:Option Addr) (n c:Nat):(Builtin.lenOf (.slice a n c)).run P w=.ok n w:=AR
theorem VL.one {g:AP} {w:World} {cs:List AV} {vs:List Value} (h:VL g w cs vs) (ho:cs.all BD=true):∀u∈vs,u.oneCell'=true:=by
 intro u hu;obtain⟨j,hj,rfl⟩:=NJ.1 hu;have hj':j<cs.length:=by rw[h.len]; omega
 exact Jl (h.at_ j cs[j] _ AD AD) (C3.1 ho cs[j] AD)
theorem N2 {E:Env} {L:BL} {g:AP} {w:World} {s s':AQ} (hI:Inv E g w s) {t u T:TypeId} {ts:List TypeId} {d:TypeDesc} {x y v:AV} {xv yv:Value}
  (hx:V g w x xv) (hy:V g w y yv) (hu:E.P.underlying u=some d) (hd:∀k,d≠.int k) (h:JD E.P L s t x y=some (v,s')) :
  ∃v' w' g',(Builtin.append_ (List.toArray (t::u::ts)) T #[xv,yv]).run E.P w=.ok v' w'/\V g' w' v v'/\Ext L g w g' w'/\Inv E g' w' s':=by
 unfold JD at h;split at h
 .rename_i elem ht
  split at h
  .rename_i i hi
   split at h
   .rename_i hz
    obtain⟨hz,hk⟩:=hz
    obtain⟨z,hz1,hz2⟩:∃z,zeroOf E.P elem=some z/\z.length=i.size:=by
     cases hq:zeroOf E.P elem with
     | none=>simp[hq] at hz
     | some z=>simp[hq] at hz; exact⟨z,rfl,hz⟩
    obtain⟨i',zv,hi',oC,_,hzl⟩:=D8 (g:=g) (w:=w) hz1;have:i'=i:=by rw[hi] at hi'; simpa using hi'.symm
    subst this;have hse:D2 E.P elem=some i'.size:=by simp[D2,hi]
    have hzs:zv.cells.size=i'.size:=by rw[<-IG,<-hzl.len]; exact hz2
    split at h
    ·-- nothing is appended
     rename_i hsrc;obtain⟨n,us,hn,Ff,hfc,hvl⟩:=Jm hI hy hk hsrc
     have hn0:n=0:=by
      rcases Nat.mul_eq_zero.1 Ff.symm with x|x
      .exact x
      .exact absurd x hk
     subst hn0;have zq:us=[]:=hvl.GN;subst zq
     have key:∀(base:Option Addr) (len cap:Nat),xv=.slice base len cap->len<=cap ->
       (Builtin.append_ (List.toArray (t::u::ts)) T #[xv,yv]).run E.P w=.ok xv w:=by
      intro base len cap e hle;subst e;rw[run_append_room T ts ht hi hu hd hn (hfc w rfl) AA];cases base <;> rfl
     split at h
     .rename_i id off len sz
      cases hal:Tel.alive s id with
      | false=>grind
      | true=>
       simp only[hal,AM,BN,BU] at h;obtain⟨rfl,rfl⟩:=h;refine⟨xv,w,g,?_,hx,Ext.refl _ _ _,hI⟩;cases hx with
       | JI hd=>exact absurd hd (hI.alive hal)
       | ref _ hcap=>grind
     grind[Ed,Ext.refl]
    ·-- something is appended
     rename_i c cs hsrc;split at h
     .rename_i hok
      obtain⟨n,us,hn,Ff,hfc,hvl⟩:=Jm hI hy hk hsrc;have hone:=hvl.one hok;have hdiv:(c::cs).length / i'.size=n:=by grind[Nat.mul_div_cancel]
      have hnp:0<n:=AB;have sB:us.length=n*i'.size:=by rw[<-hvl.len]; omega
      simp only[hdiv] at h;split at h
      .rename_i id off len sz
       split at h
       .rename_i old hold
        split at h
        .rename_i hc
         obtain⟨rfl,rfl,hlo,hal,QS,MU,hro⟩:=hc;simp only[BN,BU] at h;obtain⟨rfl,rfl⟩:=h;cases hx with
         | JI hd=>exact absurd hd (hI.alive hal)
         | @ref _ _ _ _ b cap n' e IY hcap hs hn'=>
          obtain⟨cs',vs,e',k1,k2,kle,k3⟩:=hI.blk id b IY;rw[hold] at k1; simp only[BN] at k1; subst k1;have hsh:vs.length=n':=by rw[Bv k2] at hs; grind
          have k4:VL g w (old.take (len*i'.size)) (vs.take (len*i'.size)):=by
           have:=k3.take (len*i'.size)
           grind
          by_cases hroom:len+n<=cap
          .have hbd:len*i'.size+us.length<=vs.length:=by
            have:=B5 i'.size hroom
            grind
           have hst:=F2 (P:=E.P) (b:=b) (o:=len*i'.size) (e:=e') us 0 w vs hone k2 AA;have aL:(old.take (len*i'.size)).length=len*i'.size:=AB
           obtain⟨e1,e2⟩:=hI.s7 (L:=L) (cs':=old.take (len*i'.size)++(c::cs)) (vs':=CJ vs (len*i'.size) us) IY k2 (Bn _ _ _) hro
            (by grind[Bn])
            (by rw[Bd,Ff,<-sB,aL,K5 us vs _ hbd]; exact k4.append hvl)
           refine⟨_,_,_,?_,V.ref (b:=b) (e:=e') (n:=n') ?_ hroom ?_ hn',e1,e2⟩
           .simp[*,run_append_room,DQ]
           all_goals grind[AP.F3,Bv,Bh,Bn]
          .have hvt:(vs.take (len*i'.size)).length=len*i'.size:=by grind
           have aL:(old.take (len*i'.size)).length=len*i'.size:=AB;have hos:(Builtin.firstCells i'.size len (.slice (some ⟨b,0,none⟩) len cap)).run E.P (Bb w)=.ok (List.toArray (vs.take (len*i'.size))) (Bb w):=by grind[Builtin.firstCells,Ek,Bb,Bu]
           obtain⟨HH,rest,Ma,QO,hrun⟩:=run_append_grow (base:=some ⟨b,0,none⟩) (sCap:=cap) T ts ht hi hu hd hn (hfc (Bb w) rfl) hos oC AA QS MU;obtain⟨e1,i1⟩:=hI.drew (L:=L);obtain⟨e2,i2⟩:=i1.kill (L:=L) IY hro;have hpre:(old.take (len*i'.size)++(c::cs)).length<=(vs.take (len*i'.size)++us++rest).length:=AB
           have Vl:(vs.take (len*i'.size)++us++rest).take (old.take (len*i'.size)++(c::cs)).length=vs.take (len*i'.size)++us:=by
            rw[Sc AB]
           obtain⟨e3,i3⟩:=i2.TK (L:=L) (cs:=old.take (len*i'.size)++(c::cs)) (vs:=vs.take (len*i'.size)++us++rest) elem hpre (by rw[Vl]; exact((k4.append hvl).mono e1).mono e2);refine⟨_,_,_,hrun,?_,(e1.trans e2).trans e3,i3⟩;refine V.ref (b:=w.heap.size) (e:=elem) (n:=(vs.take (len*i'.size)++us++rest).length) ?_ Ma ?_ ?_
           .simp[AP.F3,Bb]
           .exact Bv (by rw[CL]; exact if_pos rfl)
           .simp only[Bd,hvt,sB,QO,hzs]
            rw[<-EN,<-EN]
            grind
        grind
       grind
      .rename_i rows
       split at h
       .rename_i hc
        obtain⟨QS,MU,hall⟩:=hc;have hl:=Ll hall;cases hx with
        | @AE _ base b o sz f hr=>
         obtain⟨os,hfo,_,TR⟩:=hr.Wl hk hl rows.length;obtain⟨HH,rest,Ma,QO,hrun⟩:=run_append_grow (base:=base) (sCap:=rows.length) T ts ht hi hu hd hn (hfc (Bb w) rfl) (TR E.P (Bb w) rfl) oC AA QS MU;obtain⟨e1,i1⟩:=hI.drew (L:=L);cases Yl:L.mu elem with
         | true=>
          simp only[Yl,AM,BN,BU] at h;obtain⟨rfl,rfl⟩:=h;have hvo:=(hfo.vl hk).append hvl;have hlen:(rows.flatten.map AV.pv++(c::cs)).length=(os++us).length:=hvo.len;obtain⟨e3,i3⟩:=i1.TK (L:=L) (cs:=rows.flatten.map .pv++(c::cs)) (vs:=os++us++rest) elem AB (by rw[hlen,Sc rfl]; exact hvo.mono e1);refine⟨_,_,_,hrun,?_,e1.trans e3,i3⟩;refine V.ref (b:=w.heap.size) (e:=elem) (n:=(os++us++rest).length) ?_ Ma ?_ ?_
          .simp[AP.F3,Bb]
          .exact Bv (by rw[CL]; exact if_pos rfl)
          .simp only[Bd,hfo.len,sB,QO,hzs]
           rw[<-EN,<-EN]
           grind
         | false=>
          simp only[Yl,AK] at h;split at h
          .rename_i ps hps
           simp only[BN,BU] at h;obtain⟨rfl,rfl⟩:=h;obtain⟨q1,q2⟩:=G5 hvl hps;have hfn:Flat g.I w (CI i'.size n ps) i'.size us:=IX sB q1 q2;have s8:=hfo.append hfn
           have fh:(os++us++rest).length=HH*i'.size:=by
            simp only[Bd,hfo.len,sB,QO,hzs];rw[<-EN,<-EN];rw[show rows.length+n+(HH-(rows.length+n))=HH by omega]
           obtain⟨e3,i3⟩:=i1.kM (L:=L) (t:=s.ts.length) (e:=elem) fh Ma hk hse (.inl ⟨rfl,rfl⟩);have hrl:(rows++CI i'.size n ps).length=rows.length+n:=by grind[Fe]
           refine⟨_,_,_,hrun,?_,e1.trans e3,i3⟩
           have hV:=G7 (g:=g.Gf s.ts.length ⟨(Bb w).heap.size,HH,i'.size,rows.length+n,elem⟩) (w:=Cb (Bb w) (os++us++rest) elem) (t:=s.ts.length) (b:=(Bb w).heap.size) (cap:=HH) (e:=elem)
            (by simp[AP.Gf]) (s8.mono (e1.trans e3).mono (e1.trans e3).cell) hrl Ma (λo ho=>.inr ⟨rfl,ho⟩) (λq u hq=>by
             rw[Bu (by rw[CL]; exact if_pos rfl),CT (DD hq)]; omega)
           rw[hrl] at hV;exact hV
          grind
       grind
      .rename_i k rows
       split at h
       .rename_i hc
        obtain⟨QS,MU,hts,Ee,hall⟩:=hc;have hl:=Ll hall;split at h
        .rename_i ps hps
         simp only[BN,BU] at h;obtain⟨rfl,rfl⟩:=h;obtain⟨q1,q2⟩:=G5 hvl hps;have hfn:Flat g.I w (CI i'.size n ps) i'.size us:=IX sB q1 q2;have hrl:(rows++CI i'.size n ps).length=rows.length+n:=by grind[Fe]
         cases hx with
         | @own _ _ base b o sz cap f l hr hcap Vl Mi hf=>
          obtain⟨l',fN,Sr,AW3⟩:=hI.Gx k _ _ hts;have:l'=l:=AB;subst this;obtain⟨rfl,rfl,rfl,rfl,rfl⟩:=hf Sr.symm;obtain⟨os,hfo,hco,TR⟩:=hr.Wl hk hl l'.cap;have s8:=hfo.append hfn;obtain⟨vs,fz,hh,AW5,hnc,hsz,hfz,hsl⟩:=hI.tok k l' Vl;have kN:l'.sz=i'.size:=AB
          by_cases hroom:rows.length+n<=l'.cap
          .have hbd:l'.n*l'.sz+us.length<=vs.length:=by
            have:=B5 i'.size hroom
            grind[Nat.add_mul]
           have hst:=FZ (P:=E.P) (b:=l'.b) (o:=l'.n*l'.sz) (e:=l'.e) hfz us 0 w vs hone hh AA;obtain⟨e3,i3⟩:=hI.ACW (L:=L) (n:=rows.length+n) (us:=us) Vl hh AA hroom Ee;have i3':Inv E (g.Gf k { l' with n:=rows.length+n }) (BO w l'.b (CJ vs (l'.n*l'.sz) us) l'.e fz) { s with ts:=s.ts.set k (rows.length+n,elem) }:=AB;refine⟨.slice (some ⟨l'.b,0,none⟩) (rows.length+n) l'.cap,_,_,?_,?_,e3,i3'⟩
           .simp_all[run_append_room,DQ]
           .have hV:=G7 (g:=g.Gf k { l' with n:=rows.length+n }) (w:=BO w l'.b (CJ vs (l'.n*l'.sz) us) l'.e fz) (t:=k) (b:=l'.b) (cap:=l'.cap) (sz:=l'.sz) (e:=l'.e)
             (by simp[AP.Gf]) (Flat.ANM kN.symm (s8.mono e3.mono e3.cell)) hrl hroom (λo ho=>.inr ⟨rfl,ho⟩) (λq u hq=>by
              rw[Bu (by rw[Bh,if_pos rfl,if_pos (hI.HU Vl)])];rcases Fl q os.length with x|x
              .rw[CT x] at hq
               have:=(hco q u hq).2;rw[Bu hh,CQ] at this;rw[Fa us vs _ _ (.inl (by rw[Sr,kN,<-hfo.len]; exact x))];omega
              .rw[EO x] at hq
               have:=G6 us vs (l'.n*l'.sz) _ u hq hbd;rw[Sr,kN,<-hfo.len,show os.length+(q-os.length)=q by omega] at this;rw[Sr,kN,<-hfo.len];omega)
            grind
          .obtain⟨HH,rest,Ma,QO,hrun⟩:=run_append_grow (base:=some ⟨l'.b,0,none⟩) (sCap:=l'.cap) T ts ht hi hu hd hn (hfc (Bb w) rfl) (TR E.P (Bb w) rfl) oC AA QS MU
           obtain⟨e1,i1⟩:=hI.drew (L:=L)
           have fh:(os++us++rest).length=HH*i'.size:=by
            simp only[Bd,hfo.len,sB,QO,hzs];rw[<-EN,<-EN];rw[show rows.length+n+(HH-(rows.length+n))=HH by omega]
           obtain⟨e3,i3⟩:=i1.kM (L:=L) (t:=k) (e:=elem) fh Ma hk hse (.inr ⟨l',Vl,AA,Ee,rfl⟩);refine⟨_,_,_,hrun,?_,e1.trans e3,i3⟩
           have hV:=G7 (g:=g.Gf k ⟨(Bb w).heap.size,HH,i'.size,rows.length+n,elem⟩) (w:=Cb (Bb w) (os++us++rest) elem) (t:=k) (b:=(Bb w).heap.size) (cap:=HH) (e:=elem)
            (by simp[AP.Gf]) (s8.mono (e1.trans e3).mono (e1.trans e3).cell) hrl Ma (λo ho=>.inr ⟨rfl,ho⟩) (λq u hq=>by
             rw[Bu (by rw[CL]; exact if_pos rfl),CT (DD hq)]; omega)
           rw[hrl] at hV;exact hV
        grind
       grind
      grind
     grind
    grind
   grind
  grind
 grind
end Go.Tel
