/-
  Single operations, part 5: slices made, cut and appended to.
-/
import Derived.Test.YtpgfpakdnijngaaGreatDoorEvB
set_option linter.all false
namespace Go.Tel
theorem Xn {place:Nat->Option (Nat×Nat)} (parts:List (Nat×AV)):∀(cs cs':List AV),La place cs parts=some cs'->cs'.length=cs.length:=by
 induction parts with
 | nil=>grind[La]
 | cons p parts ih=>
  grind[La,FA]
theorem OO {E:Env} {L:A3} {g:AI} {w:World} {s s':AM} (hI:Inv E g w s) {t:TypeId} {len:Nat} {parts:List (Nat×AV)} {ps:List (Nat×Value)} {v:AV}
  (hk:parts.map (·.1)=ps.map (·.1)) (hv:∀(i:Nat) p q,parts[i]?=some p->ps[i]?=some q->V g w p.2 q.2) (h:Gl E.P L s t len parts=some (v,s')) :
  ∃v' w' g',(Instr.buildSlice t len ps.toArray).run E.P w=.ok v' w'/\V g' w' v v'/\Ext L g w g' w'/\Inv E g' w' s':=by
 unfold Gl at h;split at h
 .rename_i elem hu
  split at h
  .rename_i k z hk' hz
   split at h
   .rename_i hc
    obtain⟨Na,SP,Un⟩:=hc;split at h
    .rename_i cs hf
     obtain⟨i,hi,his⟩:=Ez hk';obtain⟨i',zv,hi',hz',hrun,hzl⟩:=Dn (g:=g) (w:=w) hz;have hzs:zv.cells.size=k:=by rw[<-Hl,<-hzl.len]; omega
     obtain⟨vs',Zf,hvl⟩:=NZ (place:=λi=>some (i*k,k)) parts hk hv (hzl.Fz len) hf;have Ba:cs.length=len*k:=by grind[Xn,Qi]
     have hlen:vs'.length=len*k:=by rw[<-hvl.len]; omega
     have hr:(Instr.buildSlice t len ps.toArray).run E.P w=.ok (.slice (some ⟨w.heap.size,0,none⟩) len len) (CV w vs' elem):=by
      simp only[Instr.buildSlice,Sem.run_bind,run_underlying hu,Result.andThen_ok,run_sizeOf hi,his];rw[if_neg (by omega)]
      by_cases hl0:len*k=0
      .have ATa:len=0:=by grind[Nat.mul_eq_zero]
       subst ATa;have ATb:Tel.Fz 0 zv.cells.toList=[]:=rfl;rw[ATb] at Zf;simp only[XL,GR,Sem.run_bind,Sem.run_pure,Result.andThen_ok];rw[show(Array.map (λx=>(#[]:Array Value)[x % (#[]:Array Value).size]!) (Array.range 0))=⟨[]⟩ from by simp,Zf];rfl
      .simp only[hl0,IZ,Sem.run_bind,hrun,Result.andThen_ok,Sem.run_pure]
       have:=SN zv.cells len (by omega);rw[hzs] at this ⊢;rw[this,Zf];rfl
     cases Xo:(L.mu elem&&Nat.blt 0 len) with
     | true=>
      simp only[Xo,AH] at h;simp only[Aw,A4] at h;obtain⟨rfl,rfl⟩:=h;obtain⟨e1,e2⟩:=hI.SL (L:=L) elem hvl.full.1 hvl.full.2;refine⟨_,_,_,hr,V.ref (b:=w.heap.size) (e:=elem) (n:=vs'.length) ?_ (AN _) ?_ ?_,e1,e2⟩
      .simp[AI.Ff]
      .exact Bh (by rw[B5,if_pos rfl])
      omega
     | false=>
      simp only[Xo,AE] at h;split at h
      .rename_i qs hq
       simp only[Aw,A4] at h;obtain⟨rfl,rfl⟩:=h;obtain⟨e1,e2⟩:=hI.AMU (L:=L) vs' elem;obtain⟨k1,k2⟩:=Gm hvl hq;have sP:Flat g.I w (CD k len qs) k vs':=Hz hlen k1 k2;have AHa:=sP.mono e1.mono e1.cell
       have hra:=AHa.eO (b:=w.heap.size) (o:=0) (λq _=>.inr rfl) (λq u hq=>by
        rw[Bg (by rw[B5,if_pos rfl])]; grind)
       refine⟨_,_,_,hr,?_,e1,e2⟩
       grind[V.AB,FE]
      grind
    grind
   grind
  grind
 grind
theorem Inv.alive {E:Env} {g:AI} {w:World} {s:AM} (h:Inv E g w s) {id:Nat} (ha:Tel.alive s id=true):¬ g.dead id:=λhd=>by
 have:=h.DW id hd
 grind[Tel.alive]
theorem Pb {E:Env} {P:Program} {g:AI} {w:World} {s:AM} (hI:Inv E g w s) {t:TypeId} {x ix v:AV} {xv iv:Value} (hx:V g w x xv) (hi:V g w ix iv) (h:HT P s t x ix=some v) :
  ∃v',(Instr.indexAt t xv iv).run P w=.ok v' w/\V g w v v':=by
 unfold HT at h
 have hint:∀i,Xc ix=some i->∃k,iv=.int k i:=by
  intro i hi';unfold Xc at hi';split at hi'
  .rename_i k n; simp at hi'; subst hi'; exact⟨k,hi.Cx⟩
  grind
 split at h
 .rename_i elem i hu SQ
  obtain⟨ik,rfl⟩:=hint i SQ;split at h
  .rename_i k hk
   obtain⟨ti,eB,his⟩:=Ez hk;split at h
   .rename_i rows hrows
    split at h
    .rename_i h0
     split at h
     .rename_i row hrow
      split at h
      .rename_i hlen
       simp at h; subst h;obtain⟨base,cap,b,o,sz,f,rfl,hcap,hr⟩:=Dp hx hrows;have hsz:sz=k:=by rw[<-hr.hsz row (BA hrow)]; omega
       subst hsz;have hb:=hr.hbase (by grind) hlen.2;subst hb;have hlt:=Cy hrow;refine⟨_,?_,V.C8 (b:=b) (o:=o+i.toNat*sz) 0 (λj=>f i.toNat j) (λj c hj=>⟨(hr.hc _ row j c hrow hj).1,(hr.hc _ row j c hrow hj).2,hr.hv _ row j c hrow hj⟩)⟩;have hi2:i<(rows.length:Int):=by omega
       simp[*,Instr.indexAt,asIntOf,run_underlying,run_sizeOf,DH]
      grind
     grind
    grind
   .split at h
    .rename_i id off len sz
     split at h
     .rename_i hb
      obtain⟨hb0,N3,M9,hal⟩:=hb;simp at h; subst h;cases hx with
      | @ref _ _ _ _ b cap n e H6 hcap hs hn=>
       simp[*,V.ptr,Instr.indexAt,asIntOf,run_underlying,run_sizeOf,DH]
      | Il hd=>exact absurd hd (hI.alive hal)
     grind
    grind
  grind
 .rename_i len elem i hu SQ
  obtain⟨ik,rfl⟩:=hint i SQ;split at h
  .rename_i k hk
   obtain⟨ti,eB,his⟩:=Ez hk;split at h
   .rename_i hb
    split at h
    .rename_i id off
     cases hal:Tel.alive s id with
     | false=>grind
     | true=>
     simp[hal] at h; subst h;cases hx with
     | KM hd=>exact absurd hd (hI.alive hal)
     | @ptr _ _ b H6=>
      simp[*,V.ptr,Instr.indexAt,Instr.sureAddr,asIntOf,run_underlying,run_sizeOf,DH]
    .simp at h; subst h
     cases hx with
     | DM=>
      simp[*,V.DM,Instr.indexAt,Instr.sureAddr,asIntOf,run_underlying,run_sizeOf,DH]
    .simp at h; subst h
     cases hx with
     | @C8 _ b o _ f hr=>
      refine⟨_,?_,V.C8 (b:=b) (o:=o) _ f hr⟩;simp[*,Instr.indexAt,Instr.sureAddr,asIntOf,run_underlying,run_sizeOf,DH,XM]
    grind
   grind
  grind
 grind
theorem KN {E:Env} {P:Program} {g:AI} {w:World} {s:AM} (hI:Inv E g w s) {t:TypeId} {x v:AV} {xv:Value} {fi:Nat} (hx:V g w x xv) (h:HS P s t x fi=some v) :
  ∃v',(∀w2:World,(Instr.fieldAt t xv fi).run P w2=.ok v' w2)/\V g w v v':=by
 unfold HS at h;split at h
 .rename_i fields hu
  split at h
  .rename_i f hf
   split at h
   .rename_i k hk
    obtain⟨ti,eB,his⟩:=Ez hk;split at h
    .grind
    .rename_i hk0
     have hk0':ti.size≠0:=by omega
     split at h
     .rename_i id off
      cases hal:Tel.alive s id with
      | false=>grind
      | true=>
      simp[hal] at h; subst h;cases hx with
      | KM hd=>exact absurd hd (hI.alive hal)
      | @ptr _ _ b H6=>
       simp[*,V.ptr,Instr.fieldAt,Instr.sureAddr,fieldPlace,run_underlying,run_sizeOf,DH]
     .simp at h; subst h
      cases hx with
      | DM=>
       simp[*,V.DM,Instr.fieldAt,Instr.sureAddr,fieldPlace,run_underlying,run_sizeOf,DH]
     .simp at h; subst h
      cases hx with
      | @C8 _ b o _ ff hr=>
       refine⟨_,λw2=>?_,V.C8 (b:=b) (o:=o) _ ff hr⟩;simp[*,Instr.fieldAt,Instr.sureAddr,fieldPlace,run_underlying,run_sizeOf,DH,XM]
     grind
   grind
  grind
 grind
theorem Xp {P:Program} {g:AI} {w:World} {t:TypeId} {x v:AV} {xv:Value} {fi:Nat} (hx:V g w x xv) (h:SI P t x fi=some v) :
  ∃v',(Instr.field t xv fi).run P w=.ok v' w/\V g w v v':=by
 unfold SI at h;split at h
 .rename_i fields cs hu
  split at h
  .rename_i f hf
   obtain⟨vs,rfl,hl⟩:=hx.Xj;obtain⟨v',h1,h2⟩:=Xl (P:=P) hl h;simp[*,Instr.field,run_underlying,asAgg]
  grind
 grind
theorem Uo {P:Program} {α β:Type} {w:World} (f:α->Sem β) (h:α->β) (l:List α) (hf:∀x∈l,(f x).run P w=.ok (h x) w) :
  (l.mapM f).run P w=.ok (l.map h) w:=by
 induction l with
 | nil=>simp
 | cons x l ih=>
  simp_all
theorem SR {P:Program} {α β:Type} {w:World} (f:α->Sem β) (h:α->β) (l:Array α) (hf:∀x∈l.toList,(f x).run P w=.ok (h x) w) :
  (l.mapM f).run P w=.ok (l.map h) w:=by
 rw[jP];simp only[Sem.run_map,Uo f h l.toList hf,Result.andThen_ok];congr 1
 grind
theorem Xq {P:Program} {g:AI} {w:World} {t:TypeId} {parts:List (Nat×AV)} {ps:List (Nat×Value)} {v:AV}
  (hk:parts.map (·.1)=ps.map (·.1)) (hv:∀(i:Nat) p q,parts[i]?=some p->ps[i]?=some q->V g w p.2 q.2) (h:SH P t parts=some v) :
  ∃v',(Instr.build t ps.toArray).run P w=.ok v' w/\V g w v v':=by
 unfold SH at h;split at h
 .rename_i z fields hz hu
  split at h
  .rename_i cs hf
   split at h
   .rename_i hall
    simp at h; subst h;obtain⟨i,zv,hi,nu,hrun,hzl⟩:=Dn (g:=g) (w:=w) hz;obtain⟨vs',Zf,hvl⟩:=NZ parts hk hv hzl hf;refine⟨.agg ⟨vs'⟩,?_,V.sL hvl⟩
    have hmap:(fields.mapM λf=>(do pure (f.offset,<-sizeOf f.type):Sem (Nat×Nat))).run P w=.ok (fields.map λf=>(f.offset,(DZ P f.type).getD 0)) w:=by
     apply SR;intro f hfm;have:=Array.all_eq_true'.1 hall f (Array.mem_toList_iff.1 hfm);cases hs:DZ P f.type with
     | none=>grind
     | some k=>
      obtain⟨ti,eB,his⟩:=Ez hs;simp[*,run_sizeOf]
    have ATc:(λi=>(fields.map λf=>(f.offset,(DZ P f.type).getD 0))[i]?)=Xb P fields:=by grind[Xb]
    simp_all[Instr.build,run_underlying]
   grind
  grind
 .rename_i z n elem hz hu
  split at h
  .rename_i k hk'
   split at h
   .rename_i cs hf
    simp at h; subst h;obtain⟨ti,eB,his⟩:=Ez hk';obtain⟨i,zv,hi,nu,hrun,hzl⟩:=Dn (g:=g) (w:=w) hz;obtain⟨vs',Zf,hvl⟩:=NZ parts hk hv hzl hf;simp[*,V.sL,Instr.build,run_underlying,run_sizeOf]
   grind
  grind
 grind
theorem Zg {α:Type} {k:Nat} (hk:k≠0) (rows:List (List α)) (h:∀r∈rows,r.length=k):∀q:Nat,rows.flatten[q]?=(rows[q / k]?).bind (λr=>r[q % k]?):=by
 induction rows with
 | nil=>simp
 | cons r rows ih=>
  intro q;have hr:r.length=k:=h r (by simp);rw[MV];rcases FK q k with hq|hq
  .grind[Nat.div_eq_of_lt,Nat.mod_eq_of_lt]
  .rw[Ev (by omega),ih (λr hr=>h r (by grind)),hr]
   have e1:q / k=(q-k) / k+1:=Nat.div_eq_sub_div (by omega) hq
   grind[Nat.mod_eq_sub_mod]
theorem Lt {α:Type} {k:Nat} (rows:List (List α)) (h:∀r∈rows,r.length=k):rows.flatten.length=rows.length*k:=by
 induction rows with
 | nil=>simp
 | cons r rows ih=>
  grind
theorem Flat.vl {g:AI} {w:World} {rows:List (List PV)} {k:Nat} {us:List Value} (h:Flat g.I w rows k us) (hk:k≠0):VL g w (rows.flatten.map .pv) us:=by
 refine⟨by rw[Bn,Lt rows h.hsz,h.len],λq c v h1 h2=>?_⟩;rw[FJ,Zg hk rows h.hsz] at h1;cases hr:rows[q / k]? with
 | none=>grind
 | some row=>
  cases hj:row[q % k]? with
  | none=>grind
  | some p=>
   simp[hr,hj] at h1; subst h1;obtain⟨u,h3,h4⟩:=h.at_ (q / k) row (q % k) p hr hj;rw[show q / k*k+q % k=q by grind[Nat.div_add_mod]] at h3;rw[h2] at h3; simp at h3; subst h3;exact .pv h4
theorem K2 {rows:List (List PV)} {k:Nat} (h:(rows.all λr=>r.length==k)=true):∀r∈rows,r.length=k:=λr hr=>by grind
theorem D5.VY {I:Nat->Nat->Prop} {w:World} {rows:List (List PV)} {base:Option Addr} {b o sz k:Nat} {f:Nat->Nat->Value} (h:D5 I w rows base b o sz f) (hk:k≠0)
  (hl:∀r∈rows,r.length=k) (cap:Nat):∃us,Flat I w rows k us/\(∀q u,us[q]?=some u->I b (o+q)/\w.cell? ⟨b,o+q,none⟩=some u)/\∀(P:Program) (w':World),w'.heap=w.heap->(Builtin.firstCells k rows.length (.slice base rows.length cap)).run P w'=.ok (List.toArray us) w':=by
 by_cases hne:rows=[]
 .subst hne
  refine⟨[],⟨by simp,by simp,by simp⟩,by simp,λP w' _=>?_⟩;cases base with
  | none=>rfl
  | some a=>simp[Builtin.firstCells,loadCells,loadCellsFrom]
 .obtain⟨r,rs,rfl⟩:∃r rs,rows=r::rs:=by cases rows with|nil=>grind|cons r rs=>simp
  have hsk:sz=k:=by rw[<-h.hsz r (by simp)]; grind
  subst hsk;obtain⟨us,hf,hc⟩:=h.flat hk;refine⟨us,hf,hc,λP w' hw'=>?_⟩;rw[h.hbase hne hk];simp only[Builtin.firstCells];rw[<-hf.len]
  grind[EP,B8]
theorem JH {E:Env} {g:AI} {w:World} {s:AM} (hI:Inv E g w s) {y:AV} {yv:Value} {k:Nat} {cs:List AV} (hy:V g w y yv) (hk:k≠0) (h:DN s k y=some cs) :
  ∃n us,(Builtin.lenOf yv).run E.P w=.ok n w/\cs.length=n*k/\(∀w',w'.heap=w.heap->(Builtin.firstCells k n yv).run E.P w'=.ok (List.toArray us) w')/\VL g w cs us:=by
 unfold DN at h;split at h
 .rename_i b
  split at h
  .rename_i VR
   subst VR;simp at h; subst h;have:=hy.Cx; subst this;refine⟨b.size,b.data.toList.map λb=>.int .u8 b.toNat,by rfl,by simp,λw' _=>?_,?_⟩
   .simp only[Builtin.firstCells]
    have:b.extract 0 b.size=b:=by simp
    rw[this,Sem.run_pure];congr 1
    grind
   .refine⟨by simp,λi c v h1 h2=>?_⟩
    grind[V.Iz]
  grind
 .rename_i id off len sz
  split at h
  .rename_i bcs hb
   split at h
   .rename_i hc
    obtain⟨Na,SP,hal⟩:=hc;subst SP;simp at h; subst h;cases hy with
    | Il hd=>exact absurd hd (hI.alive hal)
    | @ref _ _ _ _ b cap n e H6 hcap hs hn=>
     obtain⟨cs',vs,e',k1,k2,kle,k3⟩:=hI.blk id b H6;rw[hb] at k1; simp at k1; subst k1;have hvl:=(k3.drop off).take (len*sz);refine⟨len,_,by rfl,by grind,λw' hw'=>?_,hvl⟩;simp only[Builtin.firstCells];have hlen:(((vs.take bcs.length).drop off).take (len*sz)).length=len*sz:=by grind
     grind[EP,Bg]
   grind
  grind
 .split at h
  .rename_i rows hrows
   split at h
   .rename_i hall
    simp only[Aw] at h; subst h;have hl:=K2 hall;obtain⟨base,cap,b,o,sz,f,rfl,hcap,hr⟩:=Dp hy hrows;obtain⟨us,hf,_,hrun⟩:=hr.VY hk hl cap;exact⟨rows.length,us,by rfl,by grind[Lt],λw' hw'=>hrun E.P w' hw',hf.vl hk⟩
   grind
  grind
theorem run_append_room {P:Program} {w:World} {t u elem:TypeId} {d:TypeDesc} {i:TypeInfo} {base:Option Addr} {sLen sCap n:Nat} {x:Value} {us:List Value} (T:TypeId) (ts:List TypeId)
  (ht:P.underlying t=some (.slice elem)) (hi:P.info? elem=some i) (hu:P.underlying u=some d) (hd:∀k,d≠.int k)
  (hn:(Builtin.lenOf x).run P w=.ok n w) (hf:(Builtin.firstCells i.size n x).run P w=.ok (List.toArray us) w) (hroom:sLen+n<=sCap) :
  (Builtin.append_ (List.toArray (t::u::ts)) T #[.slice base sLen sCap,x]).run P w =
   match base with
   | none=>.ok (.slice base (sLen+n) sCap) w
   | some a=>((storeCells (a.add (sLen*i.size)) us).run P w).andThen λ_ w'=>.ok (.slice base (sLen+n) sCap) w':=by
 simp only[Builtin.append_];simp[run_underlying ht,run_sizeOf hi,run_underlying hu,hn,hroom,hf];cases base <;> simp
theorem nv (newLen:Nat):∀(r c:Nat),Builtin.growBy newLen r c<=max c (newLen+(newLen+768) / 4):=by
 intro r
 induction r with
 | zero=>grind[Builtin.growBy]
 | succ r ih=>
  grind[Builtin.growBy]
theorem nextslicecap_le (need cap:Nat) (h:cap<need):Builtin.nextslicecap need cap<=3*need:=by grind[Builtin.nextslicecap,nv]
def BK (w:World):World:={ w with drawn:=w.drawn+1 }
theorem run_append_grow {P:Program} {w:World} {t u elem:TypeId} {d:TypeDesc} {i:TypeInfo} {base:Option Addr} {sLen sCap n:Nat} {x zv:Value} {us os:List Value} (T:TypeId) (ts:List TypeId)
  (ht:P.underlying t=some (.slice elem)) (hi:P.info? elem=some i) (hu:P.underlying u=some d) (hd:∀k,d≠.int k)
  (hn:(Builtin.lenOf x).run P w=.ok n w) (hf:(Builtin.firstCells i.size n x).run P (BK w)=.ok (List.toArray us) (BK w))
  (ho:(Builtin.firstCells i.size sLen (.slice base sLen sCap)).run P (BK w)=.ok (List.toArray os) (BK w)) (hz:i.zero=some zv)
  (hroom:sCap<sLen+n) (N3:(sLen+n)*i.bytes<=2 ^ 45) (M9:sLen+n<=2 ^ 45) :
  ∃cap rest,sLen+n<=cap/\rest.length=(cap-(sLen+n))*zv.cells.size /\
   (Builtin.append_ (List.toArray (t::u::ts)) T #[.slice base sLen sCap,x]).run P w=.ok (.slice (some ⟨w.heap.size,0,none⟩) (sLen+n) cap) (CV (BK w) (os++us++rest) elem):=by
 have hcap:¬ (2 ^ 48<Builtin.nextslicecap (sLen+n) sCap*i.bytes):=by
  have:=nextslicecap_le (sLen+n) sCap hroom;have:=CJ i.bytes this
  grind
 have ATd:¬ (IntKind.i64.max<((sLen:Int)+(n:Int))):=by
  have:IntKind.i64.max=9223372036854775807:=rfl;omega
 have hzero:(zeroValue elem).run P (BK w)=.ok zv (BK w):=by simp[*,zeroValue,run_typeInfo]
 refine⟨(sLen+n)+w.tape w.drawn (.appendCap (sLen+n) sCap elem) % (2 ^ 63-(sLen+n)),(Builtin.zeroCells zv.cells ((sLen+n)+w.tape w.drawn (.appendCap (sLen+n) sCap elem) % (2 ^ 63-(sLen+n))-(sLen+n))).toList,MW _ _,?_,?_⟩
 .simp[Builtin.zeroCells]
 .simp only[Builtin.append_]
  simp[run_underlying ht,run_sizeOf hi,run_underlying hu,hn,run_typeInfo hi,Question.forced,Question.cut];rw[if_neg (by omega),if_neg (by omega),if_neg hcap];have hf':=hf;have ho':=ho;have hzero':=hzero;unfold BK at hf' ho' hzero';simp[ho',hf',hzero',newRow,CV,BK];congr 2;simp
theorem Inv.drew {E:Env} {L:A3} {g:AI} {w:World} {s:AM} (h:Inv E g w s):Ext L g w g (BK w)/\Inv E g (BK w) s:=by
 have ext:Ext L g w g (BK w):=
  ⟨rfl,rfl,rfl,AN _,λ_ _ h=>h,λ_ _ _=>rfl,λ_ _ h=>.inl h,λ_ h=>h,λ_ _ _ _=>rfl,λ_ l h=>⟨l,h,.inl rfl⟩,λ_ _ h _=>⟨h,rfl⟩,
   λ_ _ h _=>⟨h,rfl,λ_ h=>h⟩,λ_ _ _ _ _=>⟨rfl,λ_ h=>h⟩,λ_ _ h=>h,λ_ _ _=>⟨λ_=>rfl,λ_ h=>h⟩,λid _ h _=>⟨id,h⟩,λid _ h _=>⟨id,h⟩,λ_ l h _=>⟨l,h,rfl⟩,λ_ h=>h⟩
 refine⟨ext,?_⟩
 exact { h with
  blk:=λid b hb=>by
   obtain⟨cs,vs,e,h1,h2,h3,h4⟩:=h.blk id b hb;exact⟨cs,vs,e,h1,h2,h3,h4.mono ext⟩
  E9:=λgl row hr j c hj=>by
   obtain⟨v,h1,h2,h3⟩:=h.E9 gl row hr j c hj;exact⟨v,h1,h2,h3.mono ext.mono ext.cell⟩
  DK:=λgl row hr=>by
   obtain⟨h1,h2⟩:=h.DK gl row hr;exact⟨h1,h2⟩ }
def AI.GH (g:AI) (t:Nat) (l:PZ):AI:=
 {g with tok:=λk=>if k=t then some l else g.tok k,I:=λb o=>g.I b o\/(b=l.b/\o<l.n*l.sz) }
theorem Inv.ja {E:Env} {L:A3} {g:AI} {w:World} {s:AM} (h:Inv E g w s) {t cap sz n:Nat} {vs:List Value} {e:TypeId} {ts':List (Nat×Nat)}
  (hv:vs.length=cap*sz) (hn:n<=cap) (hsz:sz≠0) (hse:DZ E.P e=some sz)
  (ht:(t=s.ts.length/\ts'=s.ts++[(n,e)])\/(∃l,g.tok t=some l/\l.n<n/\L.rt<=t/\ts'=s.ts.set t (n,e))) :
  Ext L g w (g.GH t ⟨w.heap.size,cap,sz,n,e⟩) (CV w vs e)/\Inv E (g.GH t ⟨w.heap.size,cap,sz,n,e⟩) (CV w vs e) { s with ts:=ts' }:=by
 have hs:(CV w vs e).heap.size=w.heap.size+1:=by simp[CV]
 have hnone:∀k l,g.tok k=some l->k<s.ts.length:=λk l hl=>Cy (h.Gd k l hl)
 have Xr:∀k,k≠t->(g.GH t ⟨w.heap.size,cap,sz,n,e⟩).tok k=g.tok k:=λk hk=>by grind[AI.GH]
 have Ji:(g.GH t ⟨w.heap.size,cap,sz,n,e⟩).tok t=some ⟨w.heap.size,cap,sz,n,e⟩:=by simp[AI.GH]
 have hts:∀k,k≠t->ts'[k]?=s.ts[k]?\/(k>=s.ts.length/\ts'[k]?=none):=by grind
 have htt:ts'[t]?=some (n,e):=by grind
 have inv:∀k l,(g.GH t ⟨w.heap.size,cap,sz,n,e⟩).tok k=some l->(k=t/\l=⟨w.heap.size,cap,sz,n,e⟩)\/(k≠t/\g.tok k=some l):=λk l hl=>by grind
 have ext:Ext L g w (g.GH t ⟨w.heap.size,cap,sz,n,e⟩) (CV w vs e):={
  os:=rfl,tape:=rfl,output:=rfl,size:=by omega
  mono:=λ_ _ hi=>.inl hi
  cell:=λk o hi=>B8 (A0 (h.JF k o hi)) o
  blk:=λ_ _ hb=>.inl hb
  dead:=λ_ hd=>hd
  shape:=λid b hb _=>Da (A0 (h.Dt hb))
  tok:=λk l hl=>by grind
  Fa:=λid b hb _=>⟨hb,A0 (h.Dt hb)⟩
  FQ:=λk l hl hlt=>by
   have hk:k≠t:=λe=>by grind
   exact⟨by grind,A0 (h.Fc hl),λo ho=>ho.resolve_right (λe=>by have:=h.Fc hl; grind)⟩
  out:=λk hk _ _ _=>⟨A0 hk,λo ho=>ho.resolve_right (λe=>by grind)⟩
  mp:=λ_ _ hb=>hb
  FR:=λ_ b' hb'=>⟨λ_=>A0 (h.K0 hb'),λo ho=>ho.resolve_right (λe=>by have:=h.K0 hb'; grind)⟩
  Jw:=λid' _ hb _=>⟨id',hb⟩
  G0:=λid _ hb _=>⟨id,hb⟩
  C5:=λ_ h=>h
  Jy:=λk l hl hlt=>by grind }
 refine⟨ext,?_⟩
 exact {
  Ed:=h.Ed
  Db:=h.Db
  DW:=h.DW
  blk:=λid b hb=>by
   obtain⟨cs',us,e',h1,h2,h3,h4⟩:=h.blk id b hb;exact⟨cs',us,e',h1,by grind[A0],h3,h4.mono ext⟩
  Fb:=λid b o hb hi=>by
   rcases hi with hi|hi
   .exact h.Fb id b o hb hi
   .have:=h.Dt hb; grind
  Gc:=λk m q hk=>by
   by_cases e:k=t
   .grind
   .rw[Xr k e]
    rcases hts k e with x|⟨_,x⟩
    .rw[x] at hk; exact h.Gc k m q hk
    grind
  Gd:=λk l hl=>by
   rcases inv k l hl with ⟨rfl,rfl⟩|⟨hk,hl⟩
   .omega
   .rcases hts k hk with x|⟨x,_⟩
    .rw[x]; exact h.Gd k l hl
    grind
  tok:=λk l hl=>by
   rcases inv k l hl with ⟨_,rfl⟩|⟨_,hl⟩
   .grind[B5]
   .obtain⟨us,e',h1,h2⟩:=h.tok k l hl
    grind[A0]
  G1:=λk l o hl hle hi=>by
   rcases inv k l hl with ⟨_,rfl⟩|⟨_,hl⟩
   .rcases hi with hi|hi
    .have:=h.JF _ o hi; grind
    omega
   .rcases hi with hi|hi
    .exact h.G1 k l o hl hle hi
    .have:=h.Fc hl; grind
  Ee:=h.Ee
  GG:=λk k' l l' hl hl' he=>by
   rcases inv k l hl with ⟨e1,rfl⟩|⟨_,hl⟩
   .rcases inv k' l' hl' with ⟨e2,_⟩|⟨_,hl'⟩
    .rw[e1,e2]
    .have:=h.Fc hl'; grind
   .rcases inv k' l' hl' with ⟨_,rfl⟩|⟨_,hl'⟩
    .have:=h.Fc hl; grind
    .exact h.GG k k' l l' hl hl' he
  C6:=λid b k l hb hl=>by
   rcases inv k l hl with ⟨_,rfl⟩|⟨_,hl⟩
   .have:=h.Dt hb; grind
   .exact h.C6 id b k l hb hl
  JF:=λk o hi=>by
   rw[hs];rcases hi with hi|hi
   .have:=h.JF k o hi; omega
   grind
  EE:=h.EE
  mp:=h.HV (λ_ _ _=>rfl) (λ_ _ hb'=>A0 (h.K0 hb'))
  Lc:=h.Lc
  HK:=h.HK
  Dh:=h.Dh
  E9:=λgl row hr j c hj=>by
   obtain⟨v,h1,h2,h3⟩:=h.E9 gl row hr j c hj;exact⟨v,.inl h1,by rw[ext.cell _ _ h1]; omega,h3.mono ext.mono ext.cell⟩
  DK:=λgl row hr=>by
   obtain⟨h1,h2⟩:=h.DK gl row hr;exact⟨.inl h1,by rw[ext.cell _ _ h1]; omega⟩ }
theorem FC (us:List Value):∀(vs:List Value) (k q:Nat),(q<k\/k+us.length<=q)->(B4 vs k us)[q]?=vs[q]?:=by
 induction us with
 | nil=>intro vs k q _; rfl
 | cons u us ih=>
  grind[B4]
theorem Gn (us:List Value):∀(vs:List Value) (k q:Nat) (u:Value),us[q]?=some u->k+us.length<=vs.length->(B4 vs k us)[k+q]?=some u:=by
 induction us with
 | nil=>simp
 | cons x us ih=>
  intro vs k q u h hle;simp only[CI] at hle;cases q with
  | zero=>
   grind[B4,FC]
  | succ q=>
   simp at h;rw[B4,show k+(q+1)=k+1+q by omega];exact ih _ _ _ _ h (by grind)
theorem Inv.ADV {E:Env} {L:A3} {g:AI} {w:World} {s:AM} (h:Inv E g w s) {t n:Nat} {l:PZ} {vs us:List Value} {fz:Nat×Nat} (hl:g.tok t=some l)
  (hh:w.heap[l.b]?=some (.cells ⟨vs⟩ l.e fz)) (hlt:l.n<n) (hle:n<=l.cap) (GZ:L.rt<=t) :
  Ext L g w (g.GH t { l with n:=n }) (A7 w l.b (B4 vs (l.n*l.sz) us) l.e fz)/\Inv E (g.GH t { l with n:=n }) (A7 w l.b (B4 vs (l.n*l.sz) us) l.e fz) { s with ts:=s.ts.set t (n,l.e) }:=by
 have hb:=h.Fc hl;have hne:∀k,k≠l.b->(A7 w l.b (B4 vs (l.n*l.sz) us) l.e fz).heap[k]?=w.heap[k]?:=λk hk=>by grind[BQ]
 have qT:(A7 w l.b (B4 vs (l.n*l.sz) us) l.e fz).heap[l.b]?=some (.cells ⟨B4 vs (l.n*l.sz) us⟩ l.e fz):=by grind[BQ]
 have hs:(A7 w l.b (B4 vs (l.n*l.sz) us) l.e fz).heap.size=w.heap.size:=by simp[A7]
 obtain⟨vs0,fz0,hh0,hlen,hn0,hsz,AMV,hse⟩:=h.tok t l hl;have hvs:vs0=vs/\fz0=fz:=by grind
 rw[hvs.1] at hlen;rw[hvs.2] at AMV;have hnt:t<s.ts.length:=Cy (h.Gd t l hl);have Xr:∀k,k≠t->(g.GH t { l with n:=n }).tok k=g.tok k:=λk hk=>by grind[AI.GH]
 have Ji:(g.GH t { l with n:=n }).tok t=some { l with n:=n }:=by simp[AI.GH]
 have inv:∀k l',(g.GH t { l with n:=n }).tok k=some l'->(k=t/\l'={ l with n:=n })\/(k≠t/\g.tok k=some l'):=λk l' hl'=>by grind
 have AHb:∀b o,g.I b o->(A7 w l.b (B4 vs (l.n*l.sz) us) l.e fz).cell? ⟨b,o,none⟩=w.cell? ⟨b,o,none⟩:=λb o hi=>by
  by_cases hk:b=l.b
  .subst hk
   have:o<l.n*l.sz:=by
    rcases FK o (l.n*l.sz) with x|x
    .exact x
    .exact absurd hi (h.G1 t l o hl x)
   rw[Bg qT,Bg hh,FC us vs _ _ (.inl this)]
  grind[B8]
 have ext:Ext L g w (g.GH t { l with n:=n }) (A7 w l.b (B4 vs (l.n*l.sz) us) l.e fz):={
  os:=rfl,tape:=rfl,output:=rfl,size:=by omega
  mono:=λ_ _ hi=>.inl hi
  cell:=AHb
  blk:=λ_ _ hb=>.inl hb
  dead:=λ_ hd=>hd
  shape:=λid b hb _=>Da (hne b (h.C6 id b t l hb hl))
  tok:=λk l' hl'=>by grind
  Fa:=λid b hb _=>⟨hb,hne b (h.C6 id b t l hb hl)⟩
  FQ:=λk l' hl' hk'=>by
   have hk:k≠t:=λe=>by omega
   have jb:l'.b≠l.b:=λe=>hk (h.GG k t l' l hl' hl e)
   exact⟨by grind,hne _ jb,λo ho=>ho.resolve_right (λe=>jb e.1)⟩
  out:=λk hk _ h2 _=>⟨hne k (λe=>h2 t l hl e.symm),λo ho=>ho.resolve_right (λe=>h2 t l hl e.1.symm)⟩
  mp:=λ_ _ hb=>hb
  FR:=λ_ b' hb'=>⟨λ_=>hne b' (h.mpT hb' hl),λo ho=>ho.resolve_right (λe=>h.mpT hb' hl e.1)⟩
  Jw:=λid' _ hb _=>⟨id',hb⟩
  G0:=λid _ hb _=>⟨id,hb⟩
  C5:=λ_ h=>h
  Jy:=λk l' hl' _=>by grind }
 refine⟨ext,?_⟩
 exact {
  Ed:=h.Ed
  Db:=h.Db
  DW:=h.DW
  blk:=λid b hb=>by
   obtain⟨cs',us',e',h1,h2,h3,h4⟩:=h.blk id b hb;exact⟨cs',us',e',h1,by rw[hne b (h.C6 id b t l hb hl)]; omega,h3,h4.mono ext⟩
  Fb:=λid b o hb hi=>by
   rcases hi with hi|hi
   .exact h.Fb id b o hb hi
   .exact h.C6 id b t l hb hl hi.1
  Gc:=λk m q hk=>by
   by_cases e:k=t
   .grind
   .rw[Xr k e]; simp only[Fv (FL e)] at hk; exact h.Gc k m q hk
  Gd:=λk l' hl'=>by
   rcases inv k l' hl' with ⟨rfl,rfl⟩|⟨hk,hl'⟩
   .grind
   .simp only[Fv (FL hk)]; exact h.Gd k l' hl'
  tok:=λk l' hl'=>by
   rcases inv k l' hl' with ⟨_,rfl⟩|⟨hk,hl'⟩
   .exact⟨_,fz,qT,by grind[BT],hle,hsz,A6 AMV (CJ _ (Nat.le_of_lt hlt)),hse⟩
   .obtain⟨us',e',h1,h2⟩:=h.tok k l' hl'
    exact⟨us',e',by rw[hne _ (λe=>hk (h.GG k t l' l hl' hl e))]; omega,h2⟩
  G1:=λk l' o hl' hle' hi=>by
   rcases inv k l' hl' with ⟨_,rfl⟩|⟨hk,hl'⟩
   .rcases hi with hi|hi
    .exact h.G1 t l o hl (by simp only at hle'; have:=CJ l.sz (Nat.le_of_lt hlt); omega) hi
    omega
   .rcases hi with hi|hi
    .exact h.G1 k l' o hl' hle' hi
    .exact hk (h.GG k t l' l hl' hl hi.1)
  Ee:=h.Ee
  GG:=λk k' l1 l2 h1 h2 he=>by
   rcases inv k l1 h1 with ⟨e1,rfl⟩|⟨_,h1⟩
   .rcases inv k' l2 h2 with ⟨e2,_⟩|⟨_,h2⟩
    .rw[e1,e2]
    .rw[e1]; exact h.GG t k' l l2 hl h2 he
   .rcases inv k' l2 h2 with ⟨e2,rfl⟩|⟨_,h2⟩
    .rw[e2]; exact h.GG k t l1 l h1 hl he
    .exact h.GG k k' l1 l2 h1 h2 he
  C6:=λid b k l' hb hl'=>by
   rcases inv k l' hl' with ⟨_,rfl⟩|⟨_,hl'⟩
   .exact h.C6 id b t l hb hl
   .exact h.C6 id b k l' hb hl'
  JF:=λk o hi=>by
   rw[hs];rcases hi with hi|hi
   .exact h.JF k o hi
   grind
  EE:=h.EE
  mp:=h.HV (λ_ _ _=>rfl) (λ_ b' hb'=>hne b' (h.mpT hb' hl))
  Lc:=h.Lc
  HK:=h.HK
  Dh:=h.Dh
  E9:=λgl row hr j c hj=>by
   obtain⟨v,h1,h2,h3⟩:=h.E9 gl row hr j c hj;exact⟨v,.inl h1,by grind,h3.mono ext.mono ext.cell⟩
  DK:=λgl row hr=>by
   obtain⟨h1,h2⟩:=h.DK gl row hr;exact⟨.inl h1,by grind⟩ }
def AI.kill (g:AI) (id:Nat):AI:=
 {g with blk:=λi=>if i=id then none else g.blk i,dead:=λi=>g.dead i\/i=id,
         hd:=λi (hi:g.dead i\/i=id)=>(if e:i=id then if_pos e else(if_neg e).trans (g.hd i (hi.resolve_right e)):(if i=id then none else g.blk i)=none) }
theorem Inv.kill {E:Env} {L:A3} {g:AI} {w:World} {s:AM} (h:Inv E g w s) {id b:Nat} (hb:g.blk id=some b) (hro:L.ro<=id) :
  Ext L g w (g.kill id) w/\Inv E (g.kill id) w { s with bs:=s.bs.set id [] }:=by
 have inv:∀i b',(g.kill id).blk i=some b'->i≠id/\g.blk i=some b':=λi b' hi=>by grind[AI.kill]
 have ext:Ext L g w (g.kill id) w:={
  os:=rfl,tape:=rfl,output:=rfl,size:=AN _
  mono:=λ_ _ hi=>hi
  cell:=λ_ _ _=>rfl
  blk:=λi b' hi=>by grind[AI.kill]
  dead:=λ_ hd=>.inl hd
  shape:=λ_ _ _ _=>rfl
  tok:=λ_ l hl=>⟨l,hl,.inl rfl⟩
  Fa:=λi b' hi hlt=>⟨by grind[AI.kill],rfl⟩
  FQ:=λ_ _ hl _=>⟨hl,rfl,λ_ ho=>ho⟩
  out:=λ_ _ _ _ _=>⟨rfl,λ_ ho=>ho⟩
  mp:=λ_ _ hb=>hb
  FR:=λ_ _ _=>⟨λ_=>rfl,λ_ ho=>ho⟩
  Jw:=λid' _ hb _=>⟨id',hb⟩
  G0:=λi b' hi _=>⟨i,(inv i b' hi).2⟩
  C5:=λ_ h=>h
  Jy:=λ_ l hl _=>⟨l,hl,rfl⟩ }
 refine⟨ext,?_⟩
 exact {
  Ed:=λi b' hi=>by simpa using h.Ed i b' (inv i b' hi).2
  Db:=λi hd=>by
   rcases hd with hd|rfl
   .simpa using h.Db i hd
   .simpa using h.Ed _ b hb
  DW:=λi hd=>by
   by_cases e:i=id
   .subst e; simp[h.Ed _ b hb]
   .rcases hd with hd|hd
    .simp only[Fv (FL e)]; exact h.DW i hd
    omega
  blk:=λi b' hi=>by
   obtain⟨e,hi⟩:=inv i b' hi;obtain⟨cs,vs,e',h1,h2,h3,h4⟩:=h.blk i b' hi;exact⟨cs,vs,e',by grind,h2,h3,h4.mono ext⟩
  Fb:=λi b' o hi=>h.Fb i b' o (inv i b' hi).2
  Gc:=h.Gc
  Gd:=h.Gd
  tok:=h.tok
  G1:=h.G1
  Ee:=λi j b' hi hj=>h.Ee i j b' (inv i b' hi).2 (inv j b' hj).2
  GG:=h.GG
  C6:=λi b' t l hi hl=>h.C6 i b' t l (inv i b' hi).2 hl
  JF:=h.JF
  EE:=λi hi=>by
   by_cases e:i=id
   .exact .inr (.inl (.inr e))
   .rcases h.EE i (by grind) with ⟨b',hb'⟩|q|q
    .exact .inl ⟨b',(if_neg e).trans hb'⟩
    .exact .inr (.inl (.inl q))
    .exact .inr (.inr q)
  mp:=h.HV (λ_ _ hb'=>Fv (h.sK hb hb')) (λ_ _ _=>rfl)
  Lc:=λi b' hb'=>by
   obtain⟨a1,a2,a3⟩:=h.Lc i b' hb';have hne:i≠id:=FL (h.sK hb hb');exact⟨(if_neg hne).trans a1,λhd=>hd.elim a2 hne,a3⟩
  HK:=h.HK
  Dh:=λi hp=>by
   obtain⟨a,b,c⟩:=h.Dh i hp;have hne:i≠id:=λe=>by grind
   exact⟨by grind,(if_neg hne).trans b,λhd=>hd.elim c hne⟩
  E9:=λgl row hr j c hj=>by
   obtain⟨v,h1,h2,h3⟩:=h.E9 gl row hr j c hj;exact⟨v,h1,h2,h3.mono ext.mono ext.cell⟩
  DK:=λgl row hr=>by
   obtain⟨h1,h2⟩:=h.DK gl row hr;exact⟨h1,h2⟩ }
theorem Inv.SU {E:Env} {g:AI} {w:World} {s:AM} (h:Inv E g w s) {id b:Nat} (hb:g.blk id=some b):¬ (g.kill id).dead s.bs.length:=λhd=>by
 rcases hd with hd|hd
 .have:=h.Db _ hd; omega
 .have:=h.Ed id b hb; omega
theorem Inv.sQ {E:Env} {L:A3} {g:AI} {w:World} {s:AM} (h:Inv E g w s) {id b:Nat} {cs':List AV} {vs vs':List Value} {e:TypeId}
  (hb:g.blk id=some b) (hh:w.heap[b]?=some (.cells ⟨vs⟩ e (0,0))) (hvl:vs'.length=vs.length) (hro:L.ro<=id) (hle:cs'.length<=vs'.length) (hl:VL g w cs' (vs'.take cs'.length)) :
  Ext L g w ((g.kill id).Ff s.bs.length b (h.SU hb)) (A7 w b vs' e)/\Inv E ((g.kill id).Ff s.bs.length b (h.SU hb)) (A7 w b vs' e) { s with bs:=s.bs.set id []++[cs'] }:=by
 have hlt:=h.Dt hb;have hidl:=h.Ed id b hb;have hne:∀k,k≠b->(A7 w b vs' e).heap[k]?=w.heap[k]?:=λk hk=>by grind[BQ]
 have qT:(A7 w b vs' e).heap[b]?=some (.cells ⟨vs'⟩ e (0,0)):=by grind[BQ]
 have hsz:(A7 w b vs' e).heap.size=w.heap.size:=by simp[A7]
 have inv:∀i b',((g.kill id).Ff s.bs.length b (h.SU hb)).blk i=some b'->(i=s.bs.length/\b'=b)\/(i≠id/\i≠s.bs.length/\g.blk i=some b'):=λi b' hi=>by
  simp only[AI.Ff,AI.kill] at hi
  grind
 have keep:∀i b',g.blk i=some b'->i≠id->((g.kill id).Ff s.bs.length b (h.SU hb)).blk i=some b':=λi b' hi e=>by
  have:=h.Ed i b' hi;have e2:i≠s.bs.length:=by omega
  simp[*,AI.Ff,AI.kill]
 have ext:Ext L g w ((g.kill id).Ff s.bs.length b (h.SU hb)) (A7 w b vs' e):={
  os:=rfl,tape:=rfl,output:=rfl,size:=by omega
  mono:=λ_ _ hi=>hi
  cell:=λk o hi=>B8 (hne k (λhk=>h.Fb id b o hb (hk ▸ hi))) o
  blk:=λi b' hi=>by
   by_cases e:i=id
   .exact .inr (.inr e)
   grind
  dead:=λ_ hd=>.inl hd
  shape:=λi b' hi hi'=>by
   by_cases hk:b'=b
   .subst hk; rw[Bh qT,Bh hh,hvl]
   grind[Da]
  tok:=λ_ l hl=>⟨l,hl,.inl rfl⟩
  Fa:=λi b' hi hlt'=>by
   have e:i≠id:=by omega
   exact⟨keep i b' hi e,hne b' (λhk=>e (h.Ee i id b' hi (hk ▸ hb)))⟩
  FQ:=λt l hl _=>⟨hl,hne _ (λhk=>h.C6 id b t l hb hl hk.symm),λ_ ho=>ho⟩
  out:=λk _ h1 _ _=>⟨hne k (λhk=>h1 id (hk ▸ hb)),λ_ ho=>ho⟩
  mp:=λ_ _ hb=>hb
  FR:=λ_ b' hb'=>⟨λ_=>hne b' (λhk=>h.mpB hb' (hk ▸ hb)),λ_ ho=>ho⟩
  Jw:=λid' _ hb _=>⟨id',hb⟩
  G0:=λi b' hi _=>by grind
  C5:=λ_ h=>h
  Jy:=λ_ l hl _=>⟨l,hl,rfl⟩ }
 refine⟨ext,?_⟩
 exact {
  Ed:=λi b' hi=>by
   rcases inv i b' hi with ⟨rfl,_⟩|⟨_,_,hi⟩
   .simp
   .have:=h.Ed i b' hi; grind
  Db:=λi hd=>by
   rcases hd with hd|rfl
   .have:=h.Db i hd; grind
   grind
  DW:=λi hd=>by
   have hlt:i<s.bs.length:=by
    rcases hd with hd|rfl
    .exact h.Db i hd
    omega
   rw[Cf (by grind)]
   by_cases e:i=id
   .grind
   .rcases hd with hd|hd
    .simp only[Fv (FL e)]; exact h.DW i hd
    omega
  blk:=λi b' hi=>by
   rcases inv i b' hi with ⟨rfl,rfl⟩|⟨e1,_,hi⟩
   .exact⟨cs',vs',e,by simp,qT,hle,hl.mono ext⟩
   .obtain⟨cs,us,e',h1,h2,h3,h4⟩:=h.blk i b' hi
    exact⟨cs,us,e',by grind,
     by rw[hne b' (λhk=>e1 (h.Ee i id b' hi (hk ▸ hb)))]; omega,h3,h4.mono ext⟩
  Fb:=λi b' o hi=>by
   rcases inv i b' hi with ⟨_,rfl⟩|⟨_,_,hi⟩
   .exact h.Fb id _ o hb
   .exact h.Fb i b' o hi
  Gc:=h.Gc
  Gd:=h.Gd
  tok:=λt l hl=>by
   obtain⟨us,e',h1,h2⟩:=h.tok t l hl
   grind
  G1:=h.G1
  Ee:=λi j b' hi hj=>by
   rcases inv i b' hi with ⟨e1,e2⟩|⟨e1,e2,hi⟩
   .rcases inv j b' hj with ⟨e3,_⟩|⟨e3,e4,hj'⟩
    .rw[e1,e3]
    .exact absurd (h.Ee j id b' hj' (by rw[hb,e2])) e3
   .rcases inv j b' hj with ⟨e3,e4⟩|⟨e3,e4,hj'⟩
    .exact absurd (h.Ee i id b' hi (by rw[hb,e4])) e1
    .exact h.Ee i j b' hi hj'
  GG:=h.GG
  C6:=λi b' t l hi hl=>by
   rcases inv i b' hi with ⟨_,rfl⟩|⟨_,_,hi⟩
   .exact h.C6 id _ t l hb hl
   .exact h.C6 i b' t l hi hl
  JF:=λk o hi=>by rw[hsz]; exact h.JF k o hi
  EE:=λi hi=>by
   by_cases e:i=s.bs.length
   .exact .inl ⟨_,if_pos e⟩
   by_cases e2:i=id
   .exact .inr (.inl (.inr e2))
   .rcases h.EE i (by grind) with ⟨b',hb'⟩|q|q
    .grind
    .exact .inr (.inl (.inl q))
    .exact .inr (.inr q)
  mp:=h.HV (λi b' hb'=>by
    have hlt:=h.mpN hb';rw[Cf (by grind)];exact Fv (h.sK hb hb')) (λ_ b' hb'=>hne b' (λhk=>h.mpB hb' (hk ▸ hb)))
  Lc:=λi b' hb'=>by
   obtain⟨a1,a2,a3⟩:=h.Lc i b' hb';have hne:i≠id:=FL (h.sK hb hb');have hlt:=h.mpN hb';exact⟨(if_neg (XI hlt)).trans ((if_neg hne).trans a1),λhd=>hd.elim a2 hne,a3⟩
  HK:=h.HK
  Dh:=λi hp=>by
   obtain⟨a,b,c⟩:=h.Dh i hp;have hne:i≠id:=λe=>by grind
   exact⟨by grind,(if_neg (by omega)).trans ((if_neg hne).trans b),λhd=>hd.elim c hne⟩
  E9:=λgl row hr j c hj=>by
   obtain⟨v,h1,h2,h3⟩:=h.E9 gl row hr j c hj;exact⟨v,h1,by rw[ext.cell _ _ h1]; omega,h3.mono ext.mono ext.cell⟩
  DK:=λgl row hr=>by
   obtain⟨h1,h2⟩:=h.DK gl row hr;exact⟨h1,by rw[ext.cell _ _ h1]; omega⟩ }
theorem Flat.AMW {I:Nat->Nat->Prop} {w:World} {rows:List (List PV)} {k k':Nat} {us:List Value} (e:k=k') (h:Flat I w rows k us):Flat I w rows k' us:=by grind
theorem Gp {g:AI} {w:World} {t n cap sz:Nat} {b:Nat} {e:TypeId} {rows:List (List PV)} {us:List Value} (hg:g.tok t=some ⟨b,cap,sz,n,e⟩) (hf:Flat g.I w rows sz us)
  (hn:rows.length=n) (hc:n<=cap) (hI:∀o,o<n*sz->g.I b o) (hh:∀q u,us[q]?=some u->w.cell? ⟨b,q,none⟩=some u) :
  V g w (.own t rows) (.slice (some ⟨b,0,none⟩) rows.length cap):=by
 have hra:=hf.eO (b:=b) (o:=0) (λq hq=>by rw[Cg]; exact hI q (by rw[<-hn,<-hf.len]; omega)) (λq u hq=>by grind);exact .own hra (by omega) hg (by grind) (λ_=>⟨rfl,rfl,rfl,rfl,rfl⟩)
theorem KO (us vs:List Value) (k:Nat) (h:k+us.length<=vs.length):(B4 vs k us).take (k+us.length)=vs.take k++us:=by
 apply Ia;intro q;rw[Rb];split
 .rename_i hq
  rcases FK q k with x|x
  .grind[FC]
  .obtain⟨j,rfl⟩:∃j,q=k+j:=⟨q-k,by omega⟩
   grind[Gn]
 grind
theorem Zh {P:Program} {w:World} (a:Option Addr) (n c:Nat):(Builtin.lenOf (.slice a n c)).run P w=.ok n w:=by rfl
theorem VL.one {g:AI} {w:World} {cs:List AV} {vs:List Value} (h:VL g w cs vs) (ho:cs.all A1=true):∀u∈vs,u.oneCell'=true:=by
 intro u hu;obtain⟨j,hj,rfl⟩:=N5.1 hu;have hj':j<cs.length:=by rw[h.len]; omega
 exact JG (h.at_ j cs[j] _ (by simp) (by simp)) (De.1 ho cs[j] (by simp))
theorem NA {E:Env} {L:A3} {g:AI} {w:World} {s s':AM} (hI:Inv E g w s) {t u T:TypeId} {ts:List TypeId} {d:TypeDesc} {x y v:AV} {xv yv:Value}
  (hx:V g w x xv) (hy:V g w y yv) (hu:E.P.underlying u=some d) (hd:∀k,d≠.int k) (h:Ih E.P L s t x y=some (v,s')) :
  ∃v' w' g',(Builtin.append_ (List.toArray (t::u::ts)) T #[xv,yv]).run E.P w=.ok v' w'/\V g' w' v v'/\Ext L g w g' w'/\Inv E g' w' s':=by
 unfold Ih at h;split at h
 .rename_i elem ht
  split at h
  .rename_i i hi
   split at h
   .rename_i hz
    obtain⟨hz,hk⟩:=hz
    obtain⟨z,hz1,hz2⟩:∃z,zeroOf E.P elem=some z/\z.length=i.size:=by
     cases hq:zeroOf E.P elem with
     | none=>simp[hq] at hz
     | some z=>simp[hq] at hz; exact⟨z,rfl,hz⟩
    obtain⟨i',zv,hi',nu,_,hzl⟩:=Dn (g:=g) (w:=w) hz1;have:i'=i:=by rw[hi] at hi'; simpa using hi'.symm
    subst this;have hse:DZ E.P elem=some i'.size:=by simp[DZ,hi]
    have hzs:zv.cells.size=i'.size:=by rw[<-Hl,<-hzl.len]; exact hz2
    split at h
    ·-- nothing is appended
     rename_i hsrc;obtain⟨n,us,hn,Ba,hfc,hvl⟩:=JH hI hy hk hsrc
     have hn0:n=0:=by
      rcases Nat.mul_eq_zero.1 Ba.symm with x|x
      .exact x
      .exact absurd x hk
     subst hn0;have hus:us=[]:=hvl.E4;subst hus
     have key:∀(base:Option Addr) (len cap:Nat),xv=.slice base len cap->len<=cap ->
       (Builtin.append_ (List.toArray (t::u::ts)) T #[xv,yv]).run E.P w=.ok xv w:=by
      intro base len cap e hle;subst e;rw[run_append_room T ts ht hi hu hd hn (hfc w rfl) (by omega)];cases base <;> rfl
     split at h
     .rename_i id off len sz
      cases hal:Tel.alive s id with
      | false=>grind
      | true=>
       simp only[hal,AH,Aw,A4] at h;obtain⟨rfl,rfl⟩:=h;refine⟨xv,w,g,?_,hx,Ext.refl _ _ _,hI⟩;cases hx with
       | Il hd=>exact absurd hd (hI.alive hal)
       | ref _ hcap=>grind
     grind[Dp,Ext.refl]
    ·-- something is appended
     rename_i c cs hsrc;split at h
     .rename_i hok
      obtain⟨n,us,hn,Ba,hfc,hvl⟩:=JH hI hy hk hsrc;have hone:=hvl.one hok;have hdiv:(c::cs).length / i'.size=n:=by grind[Nat.mul_div_cancel]
      have hnp:0<n:=by grind
      have qU:us.length=n*i'.size:=by rw[<-hvl.len]; omega
      simp only[hdiv] at h;split at h
      .rename_i id off len sz
       split at h
       .rename_i old hold
        split at h
        .rename_i hc
         obtain⟨rfl,rfl,hlo,hal,N3,M9,hro⟩:=hc;simp only[Aw,A4] at h;obtain⟨rfl,rfl⟩:=h;cases hx with
         | Il hd=>exact absurd hd (hI.alive hal)
         | @ref _ _ _ _ b cap n' e H6 hcap hs hn'=>
          obtain⟨cs',vs,e',k1,k2,kle,k3⟩:=hI.blk id b H6;rw[hold] at k1; simp only[Aw] at k1; subst k1;have hsh:vs.length=n':=by rw[Bh k2] at hs; grind
          have k4:VL g w (old.take (len*i'.size)) (vs.take (len*i'.size)):=by
           have:=k3.take (len*i'.size)
           grind
          by_cases hroom:len+n<=cap
          .have hbd:len*i'.size+us.length<=vs.length:=by
            have:=CJ i'.size hroom
            grind
           have hst:=Fe (P:=E.P) (b:=b) (o:=len*i'.size) (e:=e') us 0 w vs hone k2 (by omega);have hol:(old.take (len*i'.size)).length=len*i'.size:=by grind
           obtain⟨e1,e2⟩:=hI.sQ (L:=L) (cs':=old.take (len*i'.size)++(c::cs)) (vs':=B4 vs (len*i'.size) us) H6 k2 (BT _ _ _) hro
            (by grind[BT])
            (by rw[B7,Ba,<-qU,hol,KO us vs _ hbd]; exact k4.append hvl)
           refine⟨_,_,_,?_,V.ref (b:=b) (e:=e') (n:=n') ?_ hroom ?_ hn',e1,e2⟩
           .simp[*,run_append_room,DH]
           all_goals grind[AI.Ff,Bh,BQ,BT]
          .have hvt:(vs.take (len*i'.size)).length=len*i'.size:=by grind
           have hol:(old.take (len*i'.size)).length=len*i'.size:=by grind
           have hos:(Builtin.firstCells i'.size len (.slice (some ⟨b,0,none⟩) len cap)).run E.P (BK w)=.ok (List.toArray (vs.take (len*i'.size))) (BK w):=by grind[Builtin.firstCells,EP,BK,Bg]
           obtain⟨G2,rest,Na,SP,hrun⟩:=run_append_grow (base:=some ⟨b,0,none⟩) (sCap:=cap) T ts ht hi hu hd hn (hfc (BK w) rfl) hos nu (by omega) N3 M9;obtain⟨e1,i1⟩:=hI.drew (L:=L);obtain⟨e2,i2⟩:=i1.kill (L:=L) H6 hro;have hpre:(old.take (len*i'.size)++(c::cs)).length<=(vs.take (len*i'.size)++us++rest).length:=by grind
           have VZ:(vs.take (len*i'.size)++us++rest).take (old.take (len*i'.size)++(c::cs)).length=vs.take (len*i'.size)++us:=by
            rw[Rf (by grind)]
           obtain⟨e3,i3⟩:=i2.SL (L:=L) (cs:=old.take (len*i'.size)++(c::cs)) (vs:=vs.take (len*i'.size)++us++rest) elem hpre (by rw[VZ]; exact((k4.append hvl).mono e1).mono e2);refine⟨_,_,_,hrun,?_,(e1.trans e2).trans e3,i3⟩;refine V.ref (b:=w.heap.size) (e:=elem) (n:=(vs.take (len*i'.size)++us++rest).length) ?_ Na ?_ ?_
           .simp[AI.Ff,BK]
           .exact Bh (by rw[B5]; exact if_pos rfl)
           .simp only[B7,hvt,qU,SP,hzs]
            rw[<-Dm,<-Dm]
            grind
        grind
       grind
      .rename_i rows
       split at h
       .rename_i hc
        obtain⟨N3,M9,hall⟩:=hc;have hl:=K2 hall;cases hx with
        | @AB _ base b o sz f hr=>
         obtain⟨os,hfo,_,SV⟩:=hr.VY hk hl rows.length;obtain⟨G2,rest,Na,SP,hrun⟩:=run_append_grow (base:=base) (sCap:=rows.length) T ts ht hi hu hd hn (hfc (BK w) rfl) (SV E.P (BK w) rfl) nu (by omega) N3 M9;obtain⟨e1,i1⟩:=hI.drew (L:=L);cases Xo:L.mu elem with
         | true=>
          simp only[Xo,AH,Aw,A4] at h;obtain⟨rfl,rfl⟩:=h;have hvo:=(hfo.vl hk).append hvl;have hlen:(rows.flatten.map AV.pv++(c::cs)).length=(os++us).length:=hvo.len;obtain⟨e3,i3⟩:=i1.SL (L:=L) (cs:=rows.flatten.map .pv++(c::cs)) (vs:=os++us++rest) elem (by grind) (by rw[hlen,Rf rfl]; exact hvo.mono e1);refine⟨_,_,_,hrun,?_,e1.trans e3,i3⟩;refine V.ref (b:=w.heap.size) (e:=elem) (n:=(os++us++rest).length) ?_ Na ?_ ?_
          .simp[AI.Ff,BK]
          .exact Bh (by rw[B5]; exact if_pos rfl)
          .simp only[B7,hfo.len,qU,SP,hzs]
           rw[<-Dm,<-Dm]
           grind
         | false=>
          simp only[Xo,AE] at h;split at h
          .rename_i ps hps
           simp only[Aw,A4] at h;obtain⟨rfl,rfl⟩:=h;obtain⟨q1,q2⟩:=Gm hvl hps;have hfn:Flat g.I w (CD i'.size n ps) i'.size us:=Hz qU q1 q2;have sR:=hfo.append hfn
           have eT:(os++us++rest).length=G2*i'.size:=by
            simp only[B7,hfo.len,qU,SP,hzs];rw[<-Dm,<-Dm];rw[show rows.length+n+(G2-(rows.length+n))=G2 by omega]
           obtain⟨e3,i3⟩:=i1.ja (L:=L) (t:=s.ts.length) (e:=elem) eT Na hk hse (.inl ⟨rfl,rfl⟩);have hrl:(rows++CD i'.size n ps).length=rows.length+n:=by grind[FE]
           refine⟨_,_,_,hrun,?_,e1.trans e3,i3⟩
           have hV:=Gp (g:=g.GH s.ts.length ⟨(BK w).heap.size,G2,i'.size,rows.length+n,elem⟩) (w:=CV (BK w) (os++us++rest) elem) (t:=s.ts.length) (b:=(BK w).heap.size) (cap:=G2) (e:=elem)
            (by simp[AI.GH]) (sR.mono (e1.trans e3).mono (e1.trans e3).cell) hrl Na (λo ho=>.inr ⟨rfl,ho⟩) (λq u hq=>by
             rw[Bg (by rw[B5]; exact if_pos rfl),Cf (Cy hq)]; omega)
           rw[hrl] at hV;exact hV
          grind
       grind
      .rename_i k rows
       split at h
       .rename_i hc
        obtain⟨N3,M9,hts,GZ,hall⟩:=hc;have hl:=K2 hall;split at h
        .rename_i ps hps
         simp only[Aw,A4] at h;obtain⟨rfl,rfl⟩:=h;obtain⟨q1,q2⟩:=Gm hvl hps;have hfn:Flat g.I w (CD i'.size n ps) i'.size us:=Hz qU q1 q2;have hrl:(rows++CD i'.size n ps).length=rows.length+n:=by grind[FE]
         cases hx with
         | @own _ _ base b o sz cap f l hr hcap VZ N4 hf=>
          obtain⟨l',Ug,Rq,ATf⟩:=hI.Gc k _ _ hts;have:l'=l:=by grind
          subst this;obtain⟨rfl,rfl,rfl,rfl,rfl⟩:=hf Rq.symm;obtain⟨os,hfo,hco,SV⟩:=hr.VY hk hl l'.cap;have sR:=hfo.append hfn;obtain⟨vs,fz,hh,ATh,hnc,hsz,hfz,hsl⟩:=hI.tok k l' VZ;have qV:l'.sz=i'.size:=by grind
          by_cases hroom:rows.length+n<=l'.cap
          .have hbd:l'.n*l'.sz+us.length<=vs.length:=by
            have:=CJ i'.size hroom
            grind[Nat.add_mul]
           have hst:=FB (P:=E.P) (b:=l'.b) (o:=l'.n*l'.sz) (e:=l'.e) hfz us 0 w vs hone hh (by omega);obtain⟨e3,i3⟩:=hI.ADV (L:=L) (n:=rows.length+n) (us:=us) VZ hh (by omega) hroom GZ;have i3':Inv E (g.GH k { l' with n:=rows.length+n }) (A7 w l'.b (B4 vs (l'.n*l'.sz) us) l'.e fz) { s with ts:=s.ts.set k (rows.length+n,elem) }:=by grind
           refine⟨.slice (some ⟨l'.b,0,none⟩) (rows.length+n) l'.cap,_,_,?_,?_,e3,i3'⟩
           .simp_all[run_append_room,DH]
           .have hV:=Gp (g:=g.GH k { l' with n:=rows.length+n }) (w:=A7 w l'.b (B4 vs (l'.n*l'.sz) us) l'.e fz) (t:=k) (b:=l'.b) (cap:=l'.cap) (sz:=l'.sz) (e:=l'.e)
             (by simp[AI.GH]) (Flat.AMW qV.symm (sR.mono e3.mono e3.cell)) hrl hroom (λo ho=>.inr ⟨rfl,ho⟩) (λq u hq=>by
              rw[Bg (by rw[BQ,if_pos rfl,if_pos (hI.Fc VZ)])];rcases FK q os.length with x|x
              .rw[Cf x] at hq
               have:=(hco q u hq).2;rw[Bg hh,Cg] at this;rw[FC us vs _ _ (.inl (by rw[Rq,qV,<-hfo.len]; exact x))];omega
              .rw[Ev x] at hq
               have:=Gn us vs (l'.n*l'.sz) _ u hq hbd;rw[Rq,qV,<-hfo.len,show os.length+(q-os.length)=q by omega] at this;rw[Rq,qV,<-hfo.len];omega)
            grind
          .obtain⟨G2,rest,Na,SP,hrun⟩:=run_append_grow (base:=some ⟨l'.b,0,none⟩) (sCap:=l'.cap) T ts ht hi hu hd hn (hfc (BK w) rfl) (SV E.P (BK w) rfl) nu (by omega) N3 M9
           obtain⟨e1,i1⟩:=hI.drew (L:=L)
           have eT:(os++us++rest).length=G2*i'.size:=by
            simp only[B7,hfo.len,qU,SP,hzs];rw[<-Dm,<-Dm];rw[show rows.length+n+(G2-(rows.length+n))=G2 by omega]
           obtain⟨e3,i3⟩:=i1.ja (L:=L) (t:=k) (e:=elem) eT Na hk hse (.inr ⟨l',VZ,by omega,GZ,rfl⟩);refine⟨_,_,_,hrun,?_,e1.trans e3,i3⟩
           have hV:=Gp (g:=g.GH k ⟨(BK w).heap.size,G2,i'.size,rows.length+n,elem⟩) (w:=CV (BK w) (os++us++rest) elem) (t:=k) (b:=(BK w).heap.size) (cap:=G2) (e:=elem)
            (by simp[AI.GH]) (sR.mono (e1.trans e3).mono (e1.trans e3).cell) hrl Na (λo ho=>.inr ⟨rfl,ho⟩) (λq u hq=>by
             rw[Bg (by rw[B5]; exact if_pos rfl),Cf (Cy hq)]; omega)
           rw[hrl] at hV;exact hV
        grind
       grind
      grind
     grind
    grind
   grind
  grind
 grind
end Go.Tel
