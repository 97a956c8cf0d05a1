/-
  Single operations, part 5: slices made, cut and appended to.
-/
import Derived.Test.YtpgfpakdnijngaaGreatDoorEvB
set_option linter.all false
namespace Go.Tel
theorem Xp {place:Nat->Option (Nat×Nat)} (parts:List (Nat×AV)):∀(cs cs':List AV),Lc place cs parts=some cs'->cs'.length=cs.length:=by
 induction parts with
 | nil=>grind[Lc]
 | cons p parts ih=>
  grind[Lc,FF]
theorem OW {E:Env} {L:A3} {g:AE} {w:World} {s s':AL} (hI:Inv E g w s) {t:TypeId} {len:Nat} {parts:List (Nat×AV)} {ps:List (Nat×Value)} {v:AV}
  (hk:parts.map (·.1)=ps.map (·.1)) (hv:∀(i:Nat) p q,parts[i]?=some p->ps[i]?=some q->V g w p.2 q.2) (h:Gm E.P L s t len parts=some (v,s')) :
  ∃v' w' g',(Instr.buildSlice t len ps.toArray).run E.P w=.ok v' w'/\V g' w' v v'/\Ext L g w g' w'/\Inv E g' w' s':=by
 unfold Gm at h;split at h
 .rename_i elem hu
  split at h
  .rename_i k z hk' hz
   split at h
   .rename_i hc
    obtain⟨NW,RL,Uz⟩:=hc;split at h
    .rename_i cs hf
     obtain⟨i,hi,his⟩:=E6 hk';obtain⟨i',zv,hi',hz',hrun,hzl⟩:=Dd (g:=g) (w:=w) hz;have hzs:zv.cells.size=k:=by rw[<-G8,<-hzl.len]; omega
     obtain⟨vs',Zd,hvl⟩:=NV (place:=λi=>some (i*k,k)) parts hk hv (hzl.Fg len) hf;have Bi:cs.length=len*k:=by grind[Xp,Jp]
     have hlen:vs'.length=len*k:=by rw[<-hvl.len]; omega
     have hr:(Instr.buildSlice t len ps.toArray).run E.P w=.ok (.slice (some ⟨w.heap.size,0,none⟩) len len) (CW w vs' elem):=by
      simp only[Instr.buildSlice,Sem.run_bind,run_underlying hu,Result.andThen_ok,run_sizeOf hi,his];rw[if_neg (by omega)]
      by_cases qv:len*k=0
      .have AU0:len=0:=by grind[Nat.mul_eq_zero]
       subst AU0;have AU1:Tel.Fg 0 zv.cells.toList=[]:=rfl;rw[AU1] at Zd;simp only[XU,F2,Sem.run_bind,Sem.run_pure,Result.andThen_ok];rw[show(Array.map (λx=>(#[]:Array Value)[x % (#[]:Array Value).size]!) (Array.range 0))=⟨[]⟩ from by simp,Zd];rfl
      .simp only[qv,Ht,Sem.run_bind,hrun,Result.andThen_ok,Sem.run_pure]
       have:=SV zv.cells len (by omega);rw[hzs] at this ⊢;rw[this,Zd];rfl
     cases Xq:(L.mu elem&&Nat.blt 0 len) with
     | true=>
      simp only[Xq,AN] at h;simp only[Au,A0] at h;obtain⟨rfl,rfl⟩:=h;obtain⟨e1,e2⟩:=hI.Qp (L:=L) elem hvl.full.1 hvl.full.2;refine⟨_,_,_,hr,V.ref (b:=w.heap.size) (e:=elem) (n:=vs'.length) ?_ (Ac _) ?_ ?_,e1,e2⟩
      .simp[AE.Fi]
      .exact Bh (by rw[Bv,if_pos rfl])
      omega
     | false=>
      simp only[Xq,AH] at h;split at h
      .rename_i qs hq
       simp only[Au,A0] at h;obtain⟨rfl,rfl⟩:=h;obtain⟨e1,e2⟩:=hI.AET (L:=L) vs' elem;obtain⟨k1,k2⟩:=Gn hvl hq;have ANp:Flat g.I w (CR k len qs) k vs':=H7 hlen k1 k2;have AIj:=ANp.mono e1.mono e1.cell
       have hra:=AIj.eK (b:=w.heap.size) (o:=0) (λq _=>.inr rfl) (λq u hq=>by
        rw[Bg (by rw[Bv,if_pos rfl])]; grind)
       refine⟨_,_,_,hr,?_,e1,e2⟩
       grind[V.AA,FK]
      grind
    grind
   grind
  grind
 grind
theorem Inv.alive {E:Env} {g:AE} {w:World} {s:AL} (h:Inv E g w s) {id:Nat} (ha:Tel.alive s id=true):¬ g.dead id:=λhd=>by
 have:=h.DI id hd
 grind[Tel.alive]
theorem Pd {E:Env} {P:Program} {g:AE} {w:World} {s:AL} (hI:Inv E g w s) {t:TypeId} {x ix v:AV} {xv iv:Value} (hx:V g w x xv) (hi:V g w ix iv) (h:HW P s t x ix=some v) :
  ∃v',(Instr.indexAt t xv iv).run P w=.ok v' w/\V g w v v':=by
 unfold HW at h
 have hint:∀i,Xg ix=some i->∃k,iv=.int k i:=by
  intro i hi';unfold Xg at hi';split at hi'
  .rename_i k n; simp at hi'; subst hi'; exact⟨k,hi.CQ⟩
  grind
 split at h
 .rename_i elem i hu SW
  obtain⟨ik,rfl⟩:=hint i SW;split at h
  .rename_i k hk
   obtain⟨ti,eB,his⟩:=E6 hk;split at h
   .rename_i rows hrows
    split at h
    .rename_i h0
     split at h
     .rename_i row hrow
      split at h
      .rename_i hlen
       simp at h; subst h;obtain⟨base,cap,b,o,sz,f,rfl,hcap,hr⟩:=Dy hx hrows;have hsz:sz=k:=by rw[<-hr.hsz row (A5 hrow)]; omega
       subst hsz;have hb:=hr.hbase (by grind) hlen.2;subst hb;have hlt:=C5 hrow;refine⟨_,?_,V.Cn (b:=b) (o:=o+i.toNat*sz) 0 (λj=>f i.toNat j) (λj c hj=>⟨(hr.hc _ row j c hrow hj).1,(hr.hc _ row j c hrow hj).2,hr.hv _ row j c hrow hj⟩)⟩;have hi2:i<(rows.length:Int):=by omega
       simp[*,Instr.indexAt,asIntOf,run_underlying,run_sizeOf,DN]
      grind
     grind
    grind
   .split at h
    .rename_i id off len sz
     split at h
     .rename_i hb
      obtain⟨hb0,SX,Ll,hal⟩:=hb;simp at h; subst h;cases hx with
      | @ref _ _ _ _ b cap n e H8 hcap hs hn=>
       simp[*,V.ptr,Instr.indexAt,asIntOf,run_underlying,run_sizeOf,DN]
      | Ik hd=>exact absurd hd (hI.alive hal)
     grind
    grind
  grind
 .rename_i len elem i hu SW
  obtain⟨ik,rfl⟩:=hint i SW;split at h
  .rename_i k hk
   obtain⟨ti,eB,his⟩:=E6 hk;split at h
   .rename_i hb
    split at h
    .rename_i id off
     cases hal:Tel.alive s id with
     | false=>grind
     | true=>
     simp[hal] at h; subst h;cases hx with
     | KU hd=>exact absurd hd (hI.alive hal)
     | @ptr _ _ b H8=>
      simp[*,V.ptr,Instr.indexAt,Instr.sureAddr,asIntOf,run_underlying,run_sizeOf,DN]
    .simp at h; subst h
     cases hx with
     | DX=>
      simp[*,V.DX,Instr.indexAt,Instr.sureAddr,asIntOf,run_underlying,run_sizeOf,DN]
    .simp at h; subst h
     cases hx with
     | @Cn _ b o _ f hr=>
      refine⟨_,?_,V.Cn (b:=b) (o:=o) _ f hr⟩;simp[*,Instr.indexAt,Instr.sureAddr,asIntOf,run_underlying,run_sizeOf,DN,XV]
    grind
   grind
  grind
 grind
theorem KW {E:Env} {P:Program} {g:AE} {w:World} {s:AL} (hI:Inv E g w s) {t:TypeId} {x v:AV} {xv:Value} {fi:Nat} (hx:V g w x xv) (h:HV P s t x fi=some v) :
  ∃v',(∀w2:World,(Instr.fieldAt t xv fi).run P w2=.ok v' w2)/\V g w v v':=by
 unfold HV at h;split at h
 .rename_i fields hu
  split at h
  .rename_i f hf
   split at h
   .rename_i k hk
    obtain⟨ti,eB,his⟩:=E6 hk;split at h
    .grind
    .rename_i Ze
     have hk0':ti.size≠0:=by omega
     split at h
     .rename_i id off
      cases hal:Tel.alive s id with
      | false=>grind
      | true=>
      simp[hal] at h; subst h;cases hx with
      | KU hd=>exact absurd hd (hI.alive hal)
      | @ptr _ _ b H8=>
       simp[*,V.ptr,Instr.fieldAt,Instr.sureAddr,fieldPlace,run_underlying,run_sizeOf,DN]
     .simp at h; subst h
      cases hx with
      | DX=>
       simp[*,V.DX,Instr.fieldAt,Instr.sureAddr,fieldPlace,run_underlying,run_sizeOf,DN]
     .simp at h; subst h
      cases hx with
      | @Cn _ b o _ ff hr=>
       refine⟨_,λw2=>?_,V.Cn (b:=b) (o:=o) _ ff hr⟩;simp[*,Instr.fieldAt,Instr.sureAddr,fieldPlace,run_underlying,run_sizeOf,DN,XV]
     grind
   grind
  grind
 grind
theorem Xr {P:Program} {g:AE} {w:World} {t:TypeId} {x v:AV} {xv:Value} {fi:Nat} (hx:V g w x xv) (h:SN P t x fi=some v) :
  ∃v',(Instr.field t xv fi).run P w=.ok v' w/\V g w v v':=by
 unfold SN at h;split at h
 .rename_i fields cs hu
  split at h
  .rename_i f hf
   obtain⟨vs,rfl,hl⟩:=hx.Rv;obtain⟨v',h1,h2⟩:=Xn (P:=P) hl h;simp[*,Instr.field,run_underlying,asAgg]
  grind
 grind
theorem U0 {P:Program} {α β:Type} {w:World} (f:α->Sem β) (h:α->β) (l:List α) (hf:∀x∈l,(f x).run P w=.ok (h x) w) :
  (l.mapM f).run P w=.ok (l.map h) w:=by
 induction l with
 | nil=>simp
 | cons x l ih=>
  simp_all
theorem SY {P:Program} {α β:Type} {w:World} (f:α->Sem β) (h:α->β) (l:Array α) (hf:∀x∈l.toList,(f x).run P w=.ok (h x) w) :
  (l.mapM f).run P w=.ok (l.map h) w:=by
 rw[jV];simp only[Sem.run_map,U0 f h l.toList hf,Result.andThen_ok];congr 1
 grind
theorem Xs {P:Program} {g:AE} {w:World} {t:TypeId} {parts:List (Nat×AV)} {ps:List (Nat×Value)} {v:AV}
  (hk:parts.map (·.1)=ps.map (·.1)) (hv:∀(i:Nat) p q,parts[i]?=some p->ps[i]?=some q->V g w p.2 q.2) (h:SM P t parts=some v) :
  ∃v',(Instr.build t ps.toArray).run P w=.ok v' w/\V g w v v':=by
 unfold SM at h;split at h
 .rename_i z fields hz hu
  split at h
  .rename_i cs hf
   split at h
   .rename_i hall
    simp at h; subst h;obtain⟨i,zv,hi,je,hrun,hzl⟩:=Dd (g:=g) (w:=w) hz;obtain⟨vs',Zd,hvl⟩:=NV parts hk hv hzl hf;refine⟨.agg ⟨vs'⟩,?_,V.nu hvl⟩
    have hmap:(fields.mapM λf=>(do pure (f.offset,<-sizeOf f.type):Sem (Nat×Nat))).run P w=.ok (fields.map λf=>(f.offset,(Dk P f.type).getD 0)) w:=by
     apply SY;intro f hfm;have:=Array.all_eq_true'.1 hall f (Array.mem_toList_iff.1 hfm);cases hs:Dk P f.type with
     | none=>grind
     | some k=>
      obtain⟨ti,eB,his⟩:=E6 hs;simp[*,run_sizeOf]
    have AU2:(λi=>(fields.map λf=>(f.offset,(Dk P f.type).getD 0))[i]?)=Xf P fields:=by grind[Xf]
    simp_all[Instr.build,run_underlying]
   grind
  grind
 .rename_i z n elem hz hu
  split at h
  .rename_i k hk'
   split at h
   .rename_i cs hf
    simp at h; subst h;obtain⟨ti,eB,his⟩:=E6 hk';obtain⟨i,zv,hi,je,hrun,hzl⟩:=Dd (g:=g) (w:=w) hz;obtain⟨vs',Zd,hvl⟩:=NV parts hk hv hzl hf;simp[*,V.nu,Instr.build,run_underlying,run_sizeOf]
   grind
  grind
 grind
theorem Zf {α:Type} {k:Nat} (hk:k≠0) (rows:List (List α)) (h:∀r∈rows,r.length=k):∀q:Nat,rows.flatten[q]?=(rows[q / k]?).bind (λr=>r[q % k]?):=by
 induction rows with
 | nil=>simp
 | cons r rows ih=>
  intro q;have hr:r.length=k:=h r (by simp);rw[MX];rcases FX q k with hq|hq
  .grind[Nat.div_eq_of_lt,Nat.mod_eq_of_lt]
  .rw[E3 (by omega),ih (λr hr=>h r (by grind)),hr]
   have e1:q / k=(q-k) / k+1:=Nat.div_eq_sub_div (by omega) hq
   grind[Nat.mod_eq_sub_mod]
theorem Lx {α:Type} {k:Nat} (rows:List (List α)) (h:∀r∈rows,r.length=k):rows.flatten.length=rows.length*k:=by
 induction rows with
 | nil=>simp
 | cons r rows ih=>
  grind
theorem Flat.vl {g:AE} {w:World} {rows:List (List PV)} {k:Nat} {us:List Value} (h:Flat g.I w rows k us) (hk:k≠0):VL g w (rows.flatten.map .pv) us:=by
 refine⟨by rw[CC,Lx rows h.hsz,h.len],λq c v h1 h2=>?_⟩;rw[E2,Zf hk rows h.hsz] at h1;cases hr:rows[q / k]? with
 | none=>grind
 | some row=>
  cases hj:row[q % k]? with
  | none=>grind
  | some p=>
   simp[hr,hj] at h1; subst h1;obtain⟨u,h3,h4⟩:=h.at_ (q / k) row (q % k) p hr hj;rw[show q / k*k+q % k=q by grind[Nat.div_add_mod]] at h3;rw[h2] at h3; simp at h3; subst h3;exact .pv h4
theorem LF {rows:List (List PV)} {k:Nat} (h:(rows.all λr=>r.length==k)=true):∀r∈rows,r.length=k:=λr hr=>by grind
theorem D6.Vg {I:Nat->Nat->Prop} {w:World} {rows:List (List PV)} {base:Option Addr} {b o sz k:Nat} {f:Nat->Nat->Value} (h:D6 I w rows base b o sz f) (hk:k≠0)
  (hl:∀r∈rows,r.length=k) (cap:Nat):∃us,Flat I w rows k us/\(∀q u,us[q]?=some u->I b (o+q)/\w.cell? ⟨b,o+q,none⟩=some u)/\∀(P:Program) (w':World),w'.heap=w.heap->(Builtin.firstCells k rows.length (.slice base rows.length cap)).run P w'=.ok (List.toArray us) w':=by
 by_cases hne:rows=[]
 .subst hne
  refine⟨[],⟨by simp,by simp,by simp⟩,by simp,λP w' _=>?_⟩;cases base with
  | none=>rfl
  | some a=>simp[Builtin.firstCells,loadCells,loadCellsFrom]
 .obtain⟨r,rs,rfl⟩:∃r rs,rows=r::rs:=by cases rows with|nil=>grind|cons r rs=>simp
  have hsk:sz=k:=by rw[<-h.hsz r (by simp)]; grind
  subst hsk;obtain⟨us,hf,hc⟩:=h.flat hk;refine⟨us,hf,hc,λP w' hw'=>?_⟩;rw[h.hbase hne hk];simp only[Builtin.firstCells];rw[<-hf.len]
  grind[EW,B4]
theorem HF {E:Env} {g:AE} {w:World} {s:AL} (hI:Inv E g w s) {y:AV} {yv:Value} {k:Nat} {cs:List AV} (hy:V g w y yv) (hk:k≠0) (h:C0 s k y=some cs) :
  ∃n us,(Builtin.lenOf yv).run E.P w=.ok n w/\cs.length=n*k/\(∀w',w'.heap=w.heap->(Builtin.firstCells k n yv).run E.P w'=.ok (List.toArray us) w')/\VL g w cs us:=by
 unfold C0 at h;split at h
 .rename_i b
  split at h
  .rename_i ZQ
   subst ZQ;simp at h; subst h;have:=hy.CQ; subst this;refine⟨b.size,b.data.toList.map λb=>.int .u8 b.toNat,by rfl,by simp,λw' _=>?_,?_⟩
   .simp only[Builtin.firstCells]
    have:b.extract 0 b.size=b:=by simp
    rw[this,Sem.run_pure];congr 1
    grind
   .refine⟨by simp,λi c v h1 h2=>?_⟩
    grind[V.IE]
  grind
 .rename_i id off len sz
  split at h
  .rename_i bcs hb
   split at h
   .rename_i hc
    obtain⟨NW,RL,hal⟩:=hc;subst RL;simp at h; subst h;cases hy with
    | Ik hd=>exact absurd hd (hI.alive hal)
    | @ref _ _ _ _ b cap n e H8 hcap hs hn=>
     obtain⟨cs',vs,e',k1,k2,kle,k3⟩:=hI.blk id b H8;rw[hb] at k1; simp at k1; subst k1;have hvl:=(k3.drop off).take (len*sz);refine⟨len,_,by rfl,by grind,λw' hw'=>?_,hvl⟩;simp only[Builtin.firstCells];have hlen:(((vs.take bcs.length).drop off).take (len*sz)).length=len*sz:=by grind
     grind[EW,Bg]
   grind
  grind
 .split at h
  .rename_i rows hrows
   split at h
   .rename_i hall
    simp only[Au] at h; subst h;have hl:=LF hall;obtain⟨base,cap,b,o,sz,f,rfl,hcap,hr⟩:=Dy hy hrows;obtain⟨us,hf,_,hrun⟩:=hr.Vg hk hl cap;exact⟨rows.length,us,by rfl,by grind[Lx],λw' hw'=>hrun E.P w' hw',hf.vl hk⟩
   grind
  grind
theorem run_append_room {P:Program} {w:World} {t u elem:TypeId} {d:TypeDesc} {i:TypeInfo} {base:Option Addr} {sLen sCap n:Nat} {x:Value} {us:List Value} (T:TypeId) (ts:List TypeId)
  (ht:P.underlying t=some (.slice elem)) (hi:P.info? elem=some i) (hu:P.underlying u=some d) (hd:∀k,d≠.int k)
  (hn:(Builtin.lenOf x).run P w=.ok n w) (hf:(Builtin.firstCells i.size n x).run P w=.ok (List.toArray us) w) (hroom:sLen+n<=sCap) :
  (Builtin.append_ (List.toArray (t::u::ts)) T #[.slice base sLen sCap,x]).run P w =
   match base with
   | none=>.ok (.slice base (sLen+n) sCap) w
   | some a=>((storeCells (a.add (sLen*i.size)) us).run P w).andThen λ_ w'=>.ok (.slice base (sLen+n) sCap) w':=by
 simp only[Builtin.append_];simp[run_underlying ht,run_sizeOf hi,run_underlying hu,hn,hroom,hf];cases base <;> simp
theorem n7 (newLen:Nat):∀(r c:Nat),Builtin.growBy newLen r c<=max c (newLen+(newLen+768) / 4):=by
 intro r
 induction r with
 | zero=>grind[Builtin.growBy]
 | succ r ih=>
  grind[Builtin.growBy]
theorem nextslicecap_le (need cap:Nat) (h:cap<need):Builtin.nextslicecap need cap<=3*need:=by grind[Builtin.nextslicecap,n7]
def BN (w:World):World:={ w with drawn:=w.drawn+1 }
theorem run_append_grow {P:Program} {w:World} {t u elem:TypeId} {d:TypeDesc} {i:TypeInfo} {base:Option Addr} {sLen sCap n:Nat} {x zv:Value} {us os:List Value} (T:TypeId) (ts:List TypeId)
  (ht:P.underlying t=some (.slice elem)) (hi:P.info? elem=some i) (hu:P.underlying u=some d) (hd:∀k,d≠.int k)
  (hn:(Builtin.lenOf x).run P w=.ok n w) (hf:(Builtin.firstCells i.size n x).run P (BN w)=.ok (List.toArray us) (BN w))
  (ho:(Builtin.firstCells i.size sLen (.slice base sLen sCap)).run P (BN w)=.ok (List.toArray os) (BN w)) (hz:i.zero=some zv)
  (hroom:sCap<sLen+n) (SX:(sLen+n)*i.bytes<=2 ^ 45) (Ll:sLen+n<=2 ^ 45) :
  ∃cap rest,sLen+n<=cap/\rest.length=(cap-(sLen+n))*zv.cells.size /\
   (Builtin.append_ (List.toArray (t::u::ts)) T #[.slice base sLen sCap,x]).run P w=.ok (.slice (some ⟨w.heap.size,0,none⟩) (sLen+n) cap) (CW (BN w) (os++us++rest) elem):=by
 have hcap:¬ (2 ^ 48<Builtin.nextslicecap (sLen+n) sCap*i.bytes):=by
  have:=nextslicecap_le (sLen+n) sCap hroom;have:=CO i.bytes this
  grind
 have AU3:¬ (IntKind.i64.max<((sLen:Int)+(n:Int))):=by
  have:IntKind.i64.max=9223372036854775807:=rfl;omega
 have hzero:(zeroValue elem).run P (BN w)=.ok zv (BN w):=by simp[*,zeroValue,run_typeInfo]
 refine⟨(sLen+n)+w.tape w.drawn (.appendCap (sLen+n) sCap elem) % (2 ^ 63-(sLen+n)),(Builtin.zeroCells zv.cells ((sLen+n)+w.tape w.drawn (.appendCap (sLen+n) sCap elem) % (2 ^ 63-(sLen+n))-(sLen+n))).toList,Kz _ _,?_,?_⟩
 .simp[Builtin.zeroCells]
 .simp only[Builtin.append_]
  simp[run_underlying ht,run_sizeOf hi,run_underlying hu,hn,run_typeInfo hi,Question.forced,Question.cut];rw[if_neg (by omega),if_neg (by omega),if_neg hcap];have hf':=hf;have ho':=ho;have hzero':=hzero;unfold BN at hf' ho' hzero';simp[ho',hf',hzero',newRow,CW,BN];congr 2;simp
theorem Inv.drew {E:Env} {L:A3} {g:AE} {w:World} {s:AL} (h:Inv E g w s):Ext L g w g (BN w)/\Inv E g (BN w) s:=by
 have ext:Ext L g w g (BN w):=
  ⟨rfl,rfl,rfl,Ac _,λ_ _ h=>h,λ_ _ _=>rfl,λ_ _ h=>.inl h,λ_ h=>h,λ_ _ _ _=>rfl,λ_ l h=>⟨l,h,.inl rfl⟩,λ_ _ h _=>⟨h,rfl⟩,
   λ_ _ h _=>⟨h,rfl,λ_ h=>h⟩,λ_ _ _ _ _=>⟨rfl,λ_ h=>h⟩,λ_ _ h=>h,λ_ _ _=>⟨λ_=>rfl,λ_ h=>h⟩,λid _ h _=>⟨id,h⟩,λid _ h _=>⟨id,h⟩,λ_ l h _=>⟨l,h,rfl⟩,λ_ h=>h⟩
 refine⟨ext,?_⟩
 exact { h with
  blk:=λid b hb=>by
   obtain⟨cs,vs,e,h1,h2,h3,h4⟩:=h.blk id b hb;exact⟨cs,vs,e,h1,h2,h3,h4.mono ext⟩
  Ee:=λgl row hr j c hj=>by
   obtain⟨v,h1,h2,h3⟩:=h.Ee gl row hr j c hj;exact⟨v,h1,h2,h3.mono ext.mono ext.cell⟩
  C6:=λgl row hr=>by
   obtain⟨h1,h2⟩:=h.C6 gl row hr;exact⟨h1,h2⟩ }
def AE.F5 (g:AE) (t:Nat) (l:Pa):AE:=
 {g with tok:=λk=>if k=t then some l else g.tok k,I:=λb o=>g.I b o\/(b=l.b/\o<l.n*l.sz) }
theorem Inv.Zg {E:Env} {L:A3} {g:AE} {w:World} {s:AL} (h:Inv E g w s) {t cap sz n:Nat} {vs:List Value} {e:TypeId} {ts':List (Nat×Nat)}
  (hv:vs.length=cap*sz) (hn:n<=cap) (hsz:sz≠0) (hse:Dk E.P e=some sz)
  (ht:(t=s.ts.length/\ts'=s.ts++[(n,e)])\/(∃l,g.tok t=some l/\l.n<n/\L.rt<=t/\ts'=s.ts.set t (n,e))) :
  Ext L g w (g.F5 t ⟨w.heap.size,cap,sz,n,e⟩) (CW w vs e)/\Inv E (g.F5 t ⟨w.heap.size,cap,sz,n,e⟩) (CW w vs e) { s with ts:=ts' }:=by
 have hs:(CW w vs e).heap.size=w.heap.size+1:=by simp[CW]
 have hnone:∀k l,g.tok k=some l->k<s.ts.length:=λk l hl=>C5 (h.Fm k l hl)
 have Xt:∀k,k≠t->(g.F5 t ⟨w.heap.size,cap,sz,n,e⟩).tok k=g.tok k:=λk hk=>by grind[AE.F5]
 have Le:(g.F5 t ⟨w.heap.size,cap,sz,n,e⟩).tok t=some ⟨w.heap.size,cap,sz,n,e⟩:=by simp[AE.F5]
 have hts:∀k,k≠t->ts'[k]?=s.ts[k]?\/(k>=s.ts.length/\ts'[k]?=none):=by grind
 have htt:ts'[t]?=some (n,e):=by grind
 have inv:∀k l,(g.F5 t ⟨w.heap.size,cap,sz,n,e⟩).tok k=some l->(k=t/\l=⟨w.heap.size,cap,sz,n,e⟩)\/(k≠t/\g.tok k=some l):=λk l hl=>by grind
 have ext:Ext L g w (g.F5 t ⟨w.heap.size,cap,sz,n,e⟩) (CW w vs e):={
  os:=rfl,tape:=rfl,output:=rfl,size:=by omega
  mono:=λ_ _ hi=>.inl hi
  cell:=λk o hi=>B4 (BC (h.IG k o hi)) o
  blk:=λ_ _ hb=>.inl hb
  dead:=λ_ hd=>hd
  shape:=λid b hb _=>C8 (BC (h.Dm hb))
  tok:=λk l hl=>by grind
  FE:=λid b hb _=>⟨hb,BC (h.Dm hb)⟩
  Ez:=λk l hl hlt=>by
   have hk:k≠t:=λe=>by grind
   exact⟨by grind,BC (h.Ff hl),λo ho=>ho.resolve_right (λe=>by have:=h.Ff hl; grind)⟩
  out:=λk hk _ _ _=>⟨BC hk,λo ho=>ho.resolve_right (λe=>by grind)⟩
  mp:=λ_ _ hb=>hb
  E1:=λ_ b' hb'=>⟨λ_=>BC (h.JG hb'),λo ho=>ho.resolve_right (λe=>by have:=h.JG hb'; grind)⟩
  JE:=λid' _ hb _=>⟨id',hb⟩
  GV:=λid _ hb _=>⟨id,hb⟩
  C4:=λ_ h=>h
  JF:=λk l hl hlt=>by grind }
 refine⟨ext,?_⟩
 exact {
  ED:=h.ED
  DH:=h.DH
  DI:=h.DI
  blk:=λid b hb=>by
   obtain⟨cs',us,e',h1,h2,h3,h4⟩:=h.blk id b hb;exact⟨cs',us,e',h1,by grind[BC],h3,h4.mono ext⟩
  FA:=λid b o hb hi=>by
   rcases hi with hi|hi
   .exact h.FA id b o hb hi
   .have:=h.Dm hb; grind
  Fl:=λk m q hk=>by
   by_cases e:k=t
   .grind
   .rw[Xt k e]
    rcases hts k e with x|⟨_,x⟩
    .rw[x] at hk; exact h.Fl k m q hk
    grind
  Fm:=λk l hl=>by
   rcases inv k l hl with ⟨rfl,rfl⟩|⟨hk,hl⟩
   .omega
   .rcases hts k hk with x|⟨x,_⟩
    .rw[x]; exact h.Fm k l hl
    grind
  tok:=λk l hl=>by
   rcases inv k l hl with ⟨_,rfl⟩|⟨_,hl⟩
   .grind[Bv]
   .obtain⟨us,e',h1,h2⟩:=h.tok k l hl
    grind[BC]
  F4:=λk l o hl hle hi=>by
   rcases inv k l hl with ⟨_,rfl⟩|⟨_,hl⟩
   .rcases hi with hi|hi
    .have:=h.IG _ o hi; grind
    omega
   .rcases hi with hi|hi
    .exact h.F4 k l o hl hle hi
    .have:=h.Ff hl; grind
  EF:=h.EF
  FM:=λk k' l l' hl hl' he=>by
   rcases inv k l hl with ⟨e1,rfl⟩|⟨_,hl⟩
   .rcases inv k' l' hl' with ⟨e2,_⟩|⟨_,hl'⟩
    .rw[e1,e2]
    .have:=h.Ff hl'; grind
   .rcases inv k' l' hl' with ⟨_,rfl⟩|⟨_,hl'⟩
    .have:=h.Ff hl; grind
    .exact h.FM k k' l l' hl hl' he
  Cu:=λid b k l hb hl=>by
   rcases inv k l hl with ⟨_,rfl⟩|⟨_,hl⟩
   .have:=h.Dm hb; grind
   .exact h.Cu id b k l hb hl
  IG:=λk o hi=>by
   rw[hs];rcases hi with hi|hi
   .have:=h.IG k o hi; omega
   grind
  D3:=h.D3
  mp:=h.HZ (λ_ _ _=>rfl) (λ_ _ hb'=>BC (h.JG hb'))
  J6:=h.J6
  F3:=h.F3
  DM:=h.DM
  Ee:=λgl row hr j c hj=>by
   obtain⟨v,h1,h2,h3⟩:=h.Ee gl row hr j c hj;exact⟨v,.inl h1,by rw[ext.cell _ _ h1]; omega,h3.mono ext.mono ext.cell⟩
  C6:=λgl row hr=>by
   obtain⟨h1,h2⟩:=h.C6 gl row hr;exact⟨.inl h1,by rw[ext.cell _ _ h1]; omega⟩ }
theorem FH (us:List Value):∀(vs:List Value) (k q:Nat),(q<k\/k+us.length<=q)->(CA vs k us)[q]?=vs[q]?:=by
 induction us with
 | nil=>intro vs k q _; rfl
 | cons u us ih=>
  grind[CA]
theorem Gp (us:List Value):∀(vs:List Value) (k q:Nat) (u:Value),us[q]?=some u->k+us.length<=vs.length->(CA vs k us)[k+q]?=some u:=by
 induction us with
 | nil=>simp
 | cons x us ih=>
  intro vs k q u h hle;simp only[CT] at hle;cases q with
  | zero=>
   grind[CA,FH]
  | succ q=>
   simp at h;rw[CA,show k+(q+1)=k+1+q by omega];exact ih _ _ _ _ h (by grind)
theorem Inv.AEW {E:Env} {L:A3} {g:AE} {w:World} {s:AL} (h:Inv E g w s) {t n:Nat} {l:Pa} {vs us:List Value} {fz:Nat×Nat} (hl:g.tok t=some l)
  (hh:w.heap[l.b]?=some (.cells ⟨vs⟩ l.e fz)) (hlt:l.n<n) (hle:n<=l.cap) (Eb:L.rt<=t) :
  Ext L g w (g.F5 t { l with n:=n }) (BI w l.b (CA vs (l.n*l.sz) us) l.e fz)/\Inv E (g.F5 t { l with n:=n }) (BI w l.b (CA vs (l.n*l.sz) us) l.e fz) { s with ts:=s.ts.set t (n,l.e) }:=by
 have hb:=h.Ff hl;have hne:∀k,k≠l.b->(BI w l.b (CA vs (l.n*l.sz) us) l.e fz).heap[k]?=w.heap[k]?:=λk hk=>by grind[BX]
 have nw:(BI w l.b (CA vs (l.n*l.sz) us) l.e fz).heap[l.b]?=some (.cells ⟨CA vs (l.n*l.sz) us⟩ l.e fz):=by grind[BX]
 have hs:(BI w l.b (CA vs (l.n*l.sz) us) l.e fz).heap.size=w.heap.size:=by simp[BI]
 obtain⟨vs0,fz0,hh0,hlen,hn0,hsz,ANq,hse⟩:=h.tok t l hl;have hvs:vs0=vs/\fz0=fz:=by grind
 rw[hvs.1] at hlen;rw[hvs.2] at ANq;have hnt:t<s.ts.length:=C5 (h.Fm t l hl);have Xt:∀k,k≠t->(g.F5 t { l with n:=n }).tok k=g.tok k:=λk hk=>by grind[AE.F5]
 have Le:(g.F5 t { l with n:=n }).tok t=some { l with n:=n }:=by simp[AE.F5]
 have inv:∀k l',(g.F5 t { l with n:=n }).tok k=some l'->(k=t/\l'={ l with n:=n })\/(k≠t/\g.tok k=some l'):=λk l' hl'=>by grind
 have AIk:∀b o,g.I b o->(BI w l.b (CA vs (l.n*l.sz) us) l.e fz).cell? ⟨b,o,none⟩=w.cell? ⟨b,o,none⟩:=λb o hi=>by
  by_cases hk:b=l.b
  .subst hk
   have:o<l.n*l.sz:=by
    rcases FX o (l.n*l.sz) with x|x
    .exact x
    .exact absurd hi (h.F4 t l o hl x)
   rw[Bg nw,Bg hh,FH us vs _ _ (.inl this)]
  grind[B4]
 have ext:Ext L g w (g.F5 t { l with n:=n }) (BI w l.b (CA vs (l.n*l.sz) us) l.e fz):={
  os:=rfl,tape:=rfl,output:=rfl,size:=by omega
  mono:=λ_ _ hi=>.inl hi
  cell:=AIk
  blk:=λ_ _ hb=>.inl hb
  dead:=λ_ hd=>hd
  shape:=λid b hb _=>C8 (hne b (h.Cu id b t l hb hl))
  tok:=λk l' hl'=>by grind
  FE:=λid b hb _=>⟨hb,hne b (h.Cu id b t l hb hl)⟩
  Ez:=λk l' hl' hk'=>by
   have hk:k≠t:=λe=>by omega
   have ZR:l'.b≠l.b:=λe=>hk (h.FM k t l' l hl' hl e)
   exact⟨by grind,hne _ ZR,λo ho=>ho.resolve_right (λe=>ZR e.1)⟩
  out:=λk hk _ h2 _=>⟨hne k (λe=>h2 t l hl e.symm),λo ho=>ho.resolve_right (λe=>h2 t l hl e.1.symm)⟩
  mp:=λ_ _ hb=>hb
  E1:=λ_ b' hb'=>⟨λ_=>hne b' (h.mpT hb' hl),λo ho=>ho.resolve_right (λe=>h.mpT hb' hl e.1)⟩
  JE:=λid' _ hb _=>⟨id',hb⟩
  GV:=λid _ hb _=>⟨id,hb⟩
  C4:=λ_ h=>h
  JF:=λk l' hl' _=>by grind }
 refine⟨ext,?_⟩
 exact {
  ED:=h.ED
  DH:=h.DH
  DI:=h.DI
  blk:=λid b hb=>by
   obtain⟨cs',us',e',h1,h2,h3,h4⟩:=h.blk id b hb;exact⟨cs',us',e',h1,by rw[hne b (h.Cu id b t l hb hl)]; omega,h3,h4.mono ext⟩
  FA:=λid b o hb hi=>by
   rcases hi with hi|hi
   .exact h.FA id b o hb hi
   .exact h.Cu id b t l hb hl hi.1
  Fl:=λk m q hk=>by
   by_cases e:k=t
   .grind
   .rw[Xt k e]; simp only[FV (E4 e)] at hk; exact h.Fl k m q hk
  Fm:=λk l' hl'=>by
   rcases inv k l' hl' with ⟨rfl,rfl⟩|⟨hk,hl'⟩
   .grind
   .simp only[FV (E4 hk)]; exact h.Fm k l' hl'
  tok:=λk l' hl'=>by
   rcases inv k l' hl' with ⟨_,rfl⟩|⟨hk,hl'⟩
   .exact⟨_,fz,nw,by grind[Be],hle,hsz,CN ANq (CO _ (Nat.le_of_lt hlt)),hse⟩
   .obtain⟨us',e',h1,h2⟩:=h.tok k l' hl'
    exact⟨us',e',by rw[hne _ (λe=>hk (h.FM k t l' l hl' hl e))]; omega,h2⟩
  F4:=λk l' o hl' hle' hi=>by
   rcases inv k l' hl' with ⟨_,rfl⟩|⟨hk,hl'⟩
   .rcases hi with hi|hi
    .exact h.F4 t l o hl (by simp only at hle'; have:=CO l.sz (Nat.le_of_lt hlt); omega) hi
    omega
   .rcases hi with hi|hi
    .exact h.F4 k l' o hl' hle' hi
    .exact hk (h.FM k t l' l hl' hl hi.1)
  EF:=h.EF
  FM:=λk k' l1 l2 h1 h2 he=>by
   rcases inv k l1 h1 with ⟨e1,rfl⟩|⟨_,h1⟩
   .rcases inv k' l2 h2 with ⟨e2,_⟩|⟨_,h2⟩
    .rw[e1,e2]
    .rw[e1]; exact h.FM t k' l l2 hl h2 he
   .rcases inv k' l2 h2 with ⟨e2,rfl⟩|⟨_,h2⟩
    .rw[e2]; exact h.FM k t l1 l h1 hl he
    .exact h.FM k k' l1 l2 h1 h2 he
  Cu:=λid b k l' hb hl'=>by
   rcases inv k l' hl' with ⟨_,rfl⟩|⟨_,hl'⟩
   .exact h.Cu id b t l hb hl
   .exact h.Cu id b k l' hb hl'
  IG:=λk o hi=>by
   rw[hs];rcases hi with hi|hi
   .exact h.IG k o hi
   grind
  D3:=h.D3
  mp:=h.HZ (λ_ _ _=>rfl) (λ_ b' hb'=>hne b' (h.mpT hb' hl))
  J6:=h.J6
  F3:=h.F3
  DM:=h.DM
  Ee:=λgl row hr j c hj=>by
   obtain⟨v,h1,h2,h3⟩:=h.Ee gl row hr j c hj;exact⟨v,.inl h1,by grind,h3.mono ext.mono ext.cell⟩
  C6:=λgl row hr=>by
   obtain⟨h1,h2⟩:=h.C6 gl row hr;exact⟨.inl h1,by grind⟩ }
def AE.kill (g:AE) (id:Nat):AE:=
 {g with blk:=λi=>if i=id then none else g.blk i,dead:=λi=>g.dead i\/i=id,
         hd:=λi (hi:g.dead i\/i=id)=>(if e:i=id then if_pos e else(if_neg e).trans (g.hd i (hi.resolve_right e)):(if i=id then none else g.blk i)=none) }
theorem Inv.kill {E:Env} {L:A3} {g:AE} {w:World} {s:AL} (h:Inv E g w s) {id b:Nat} (hb:g.blk id=some b) (hro:L.ro<=id) :
  Ext L g w (g.kill id) w/\Inv E (g.kill id) w { s with bs:=s.bs.set id [] }:=by
 have inv:∀i b',(g.kill id).blk i=some b'->i≠id/\g.blk i=some b':=λi b' hi=>by grind[AE.kill]
 have ext:Ext L g w (g.kill id) w:={
  os:=rfl,tape:=rfl,output:=rfl,size:=Ac _
  mono:=λ_ _ hi=>hi
  cell:=λ_ _ _=>rfl
  blk:=λi b' hi=>by grind[AE.kill]
  dead:=λ_ hd=>.inl hd
  shape:=λ_ _ _ _=>rfl
  tok:=λ_ l hl=>⟨l,hl,.inl rfl⟩
  FE:=λi b' hi hlt=>⟨by grind[AE.kill],rfl⟩
  Ez:=λ_ _ hl _=>⟨hl,rfl,λ_ ho=>ho⟩
  out:=λ_ _ _ _ _=>⟨rfl,λ_ ho=>ho⟩
  mp:=λ_ _ hb=>hb
  E1:=λ_ _ _=>⟨λ_=>rfl,λ_ ho=>ho⟩
  JE:=λid' _ hb _=>⟨id',hb⟩
  GV:=λi b' hi _=>⟨i,(inv i b' hi).2⟩
  C4:=λ_ h=>h
  JF:=λ_ l hl _=>⟨l,hl,rfl⟩ }
 refine⟨ext,?_⟩
 exact {
  ED:=λi b' hi=>by simpa using h.ED i b' (inv i b' hi).2
  DH:=λi hd=>by
   rcases hd with hd|rfl
   .simpa using h.DH i hd
   .simpa using h.ED _ b hb
  DI:=λi hd=>by
   by_cases e:i=id
   .subst e; simp[h.ED _ b hb]
   .rcases hd with hd|hd
    .simp only[FV (E4 e)]; exact h.DI i hd
    omega
  blk:=λi b' hi=>by
   obtain⟨e,hi⟩:=inv i b' hi;obtain⟨cs,vs,e',h1,h2,h3,h4⟩:=h.blk i b' hi;exact⟨cs,vs,e',by grind,h2,h3,h4.mono ext⟩
  FA:=λi b' o hi=>h.FA i b' o (inv i b' hi).2
  Fl:=h.Fl
  Fm:=h.Fm
  tok:=h.tok
  F4:=h.F4
  EF:=λi j b' hi hj=>h.EF i j b' (inv i b' hi).2 (inv j b' hj).2
  FM:=h.FM
  Cu:=λi b' t l hi hl=>h.Cu i b' t l (inv i b' hi).2 hl
  IG:=h.IG
  D3:=λi hi=>by
   by_cases e:i=id
   .exact .inr (.inl (.inr e))
   .rcases h.D3 i (by grind) with ⟨b',hb'⟩|q|q
    .exact .inl ⟨b',(if_neg e).trans hb'⟩
    .exact .inr (.inl (.inl q))
    .exact .inr (.inr q)
  mp:=h.HZ (λ_ _ hb'=>FV (h.nr hb hb')) (λ_ _ _=>rfl)
  J6:=λi b' hb'=>by
   obtain⟨a1,a2,a3⟩:=h.J6 i b' hb';have hne:i≠id:=E4 (h.nr hb hb');exact⟨(if_neg hne).trans a1,λhd=>hd.elim a2 hne,a3⟩
  F3:=h.F3
  DM:=λi hp=>by
   obtain⟨a,b,c⟩:=h.DM i hp;have hne:i≠id:=λe=>by grind
   exact⟨by grind,(if_neg hne).trans b,λhd=>hd.elim c hne⟩
  Ee:=λgl row hr j c hj=>by
   obtain⟨v,h1,h2,h3⟩:=h.Ee gl row hr j c hj;exact⟨v,h1,h2,h3.mono ext.mono ext.cell⟩
  C6:=λgl row hr=>by
   obtain⟨h1,h2⟩:=h.C6 gl row hr;exact⟨h1,h2⟩ }
theorem Inv.SZ {E:Env} {g:AE} {w:World} {s:AL} (h:Inv E g w s) {id b:Nat} (hb:g.blk id=some b):¬ (g.kill id).dead s.bs.length:=λhd=>by
 rcases hd with hd|hd
 .have:=h.DH _ hd; omega
 .have:=h.ED id b hb; omega
theorem Inv.sA {E:Env} {L:A3} {g:AE} {w:World} {s:AL} (h:Inv E g w s) {id b:Nat} {cs':List AV} {vs vs':List Value} {e:TypeId}
  (hb:g.blk id=some b) (hh:w.heap[b]?=some (.cells ⟨vs⟩ e (0,0))) (hvl:vs'.length=vs.length) (hro:L.ro<=id) (hle:cs'.length<=vs'.length) (hl:VL g w cs' (vs'.take cs'.length)) :
  Ext L g w ((g.kill id).Fi s.bs.length b (h.SZ hb)) (BI w b vs' e)/\Inv E ((g.kill id).Fi s.bs.length b (h.SZ hb)) (BI w b vs' e) { s with bs:=s.bs.set id []++[cs'] }:=by
 have hlt:=h.Dm hb;have hidl:=h.ED id b hb;have hne:∀k,k≠b->(BI w b vs' e).heap[k]?=w.heap[k]?:=λk hk=>by grind[BX]
 have nw:(BI w b vs' e).heap[b]?=some (.cells ⟨vs'⟩ e (0,0)):=by grind[BX]
 have hsz:(BI w b vs' e).heap.size=w.heap.size:=by simp[BI]
 have inv:∀i b',((g.kill id).Fi s.bs.length b (h.SZ hb)).blk i=some b'->(i=s.bs.length/\b'=b)\/(i≠id/\i≠s.bs.length/\g.blk i=some b'):=λi b' hi=>by
  simp only[AE.Fi,AE.kill] at hi
  grind
 have keep:∀i b',g.blk i=some b'->i≠id->((g.kill id).Fi s.bs.length b (h.SZ hb)).blk i=some b':=λi b' hi e=>by
  have:=h.ED i b' hi;have e2:i≠s.bs.length:=by omega
  simp[*,AE.Fi,AE.kill]
 have ext:Ext L g w ((g.kill id).Fi s.bs.length b (h.SZ hb)) (BI w b vs' e):={
  os:=rfl,tape:=rfl,output:=rfl,size:=by omega
  mono:=λ_ _ hi=>hi
  cell:=λk o hi=>B4 (hne k (λhk=>h.FA id b o hb (hk ▸ hi))) o
  blk:=λi b' hi=>by
   by_cases e:i=id
   .exact .inr (.inr e)
   grind
  dead:=λ_ hd=>.inl hd
  shape:=λi b' hi hi'=>by
   by_cases hk:b'=b
   .subst hk; rw[Bh nw,Bh hh,hvl]
   grind[C8]
  tok:=λ_ l hl=>⟨l,hl,.inl rfl⟩
  FE:=λi b' hi hlt'=>by
   have e:i≠id:=by omega
   exact⟨keep i b' hi e,hne b' (λhk=>e (h.EF i id b' hi (hk ▸ hb)))⟩
  Ez:=λt l hl _=>⟨hl,hne _ (λhk=>h.Cu id b t l hb hl hk.symm),λ_ ho=>ho⟩
  out:=λk _ h1 _ _=>⟨hne k (λhk=>h1 id (hk ▸ hb)),λ_ ho=>ho⟩
  mp:=λ_ _ hb=>hb
  E1:=λ_ b' hb'=>⟨λ_=>hne b' (λhk=>h.mpB hb' (hk ▸ hb)),λ_ ho=>ho⟩
  JE:=λid' _ hb _=>⟨id',hb⟩
  GV:=λi b' hi _=>by grind
  C4:=λ_ h=>h
  JF:=λ_ l hl _=>⟨l,hl,rfl⟩ }
 refine⟨ext,?_⟩
 exact {
  ED:=λi b' hi=>by
   rcases inv i b' hi with ⟨rfl,_⟩|⟨_,_,hi⟩
   .simp
   .have:=h.ED i b' hi; grind
  DH:=λi hd=>by
   rcases hd with hd|rfl
   .have:=h.DH i hd; grind
   grind
  DI:=λi hd=>by
   have hlt:i<s.bs.length:=by
    rcases hd with hd|rfl
    .exact h.DH i hd
    omega
   rw[CZ (by grind)]
   by_cases e:i=id
   .grind
   .rcases hd with hd|hd
    .simp only[FV (E4 e)]; exact h.DI i hd
    omega
  blk:=λi b' hi=>by
   rcases inv i b' hi with ⟨rfl,rfl⟩|⟨e1,_,hi⟩
   .exact⟨cs',vs',e,by simp,nw,hle,hl.mono ext⟩
   .obtain⟨cs,us,e',h1,h2,h3,h4⟩:=h.blk i b' hi
    exact⟨cs,us,e',by grind,
     by rw[hne b' (λhk=>e1 (h.EF i id b' hi (hk ▸ hb)))]; omega,h3,h4.mono ext⟩
  FA:=λi b' o hi=>by
   rcases inv i b' hi with ⟨_,rfl⟩|⟨_,_,hi⟩
   .exact h.FA id _ o hb
   .exact h.FA i b' o hi
  Fl:=h.Fl
  Fm:=h.Fm
  tok:=λt l hl=>by
   obtain⟨us,e',h1,h2⟩:=h.tok t l hl
   grind
  F4:=h.F4
  EF:=λi j b' hi hj=>by
   rcases inv i b' hi with ⟨e1,e2⟩|⟨e1,e2,hi⟩
   .rcases inv j b' hj with ⟨e3,_⟩|⟨e3,e4,hj'⟩
    .rw[e1,e3]
    .exact absurd (h.EF j id b' hj' (by rw[hb,e2])) e3
   .rcases inv j b' hj with ⟨e3,e4⟩|⟨e3,e4,hj'⟩
    .exact absurd (h.EF i id b' hi (by rw[hb,e4])) e1
    .exact h.EF i j b' hi hj'
  FM:=h.FM
  Cu:=λi b' t l hi hl=>by
   rcases inv i b' hi with ⟨_,rfl⟩|⟨_,_,hi⟩
   .exact h.Cu id _ t l hb hl
   .exact h.Cu i b' t l hi hl
  IG:=λk o hi=>by rw[hsz]; exact h.IG k o hi
  D3:=λi hi=>by
   by_cases e:i=s.bs.length
   .exact .inl ⟨_,if_pos e⟩
   by_cases e2:i=id
   .exact .inr (.inl (.inr e2))
   .rcases h.D3 i (by grind) with ⟨b',hb'⟩|q|q
    .grind
    .exact .inr (.inl (.inl q))
    .exact .inr (.inr q)
  mp:=h.HZ (λi b' hb'=>by
    have hlt:=h.mpN hb';rw[CZ (by grind)];exact FV (h.nr hb hb')) (λ_ b' hb'=>hne b' (λhk=>h.mpB hb' (hk ▸ hb)))
  J6:=λi b' hb'=>by
   obtain⟨a1,a2,a3⟩:=h.J6 i b' hb';have hne:i≠id:=E4 (h.nr hb hb');have hlt:=h.mpN hb';exact⟨(if_neg (XS hlt)).trans ((if_neg hne).trans a1),λhd=>hd.elim a2 hne,a3⟩
  F3:=h.F3
  DM:=λi hp=>by
   obtain⟨a,b,c⟩:=h.DM i hp;have hne:i≠id:=λe=>by grind
   exact⟨by grind,(if_neg (by omega)).trans ((if_neg hne).trans b),λhd=>hd.elim c hne⟩
  Ee:=λgl row hr j c hj=>by
   obtain⟨v,h1,h2,h3⟩:=h.Ee gl row hr j c hj;exact⟨v,h1,by rw[ext.cell _ _ h1]; omega,h3.mono ext.mono ext.cell⟩
  C6:=λgl row hr=>by
   obtain⟨h1,h2⟩:=h.C6 gl row hr;exact⟨h1,by rw[ext.cell _ _ h1]; omega⟩ }
theorem Flat.ANr {I:Nat->Nat->Prop} {w:World} {rows:List (List PV)} {k k':Nat} {us:List Value} (e:k=k') (h:Flat I w rows k us):Flat I w rows k' us:=by grind
theorem Gq {g:AE} {w:World} {t n cap sz:Nat} {b:Nat} {e:TypeId} {rows:List (List PV)} {us:List Value} (hg:g.tok t=some ⟨b,cap,sz,n,e⟩) (hf:Flat g.I w rows sz us)
  (hn:rows.length=n) (hc:n<=cap) (hI:∀o,o<n*sz->g.I b o) (hh:∀q u,us[q]?=some u->w.cell? ⟨b,q,none⟩=some u) :
  V g w (.own t rows) (.slice (some ⟨b,0,none⟩) rows.length cap):=by
 have hra:=hf.eK (b:=b) (o:=0) (λq hq=>by rw[CP]; exact hI q (by rw[<-hn,<-hf.len]; omega)) (λq u hq=>by grind);exact .own hra (by omega) hg (by grind) (λ_=>⟨rfl,rfl,rfl,rfl,rfl⟩)
theorem KX (us vs:List Value) (k:Nat) (h:k+us.length<=vs.length):(CA vs k us).take (k+us.length)=vs.take k++us:=by
 apply G9;intro q;rw[Rf];split
 .rename_i hq
  rcases FX q k with x|x
  .grind[FH]
  .obtain⟨j,rfl⟩:∃j,q=k+j:=⟨q-k,by omega⟩
   grind[Gp]
 grind
theorem Zh {P:Program} {w:World} (a:Option Addr) (n c:Nat):(Builtin.lenOf (.slice a n c)).run P w=.ok n w:=by rfl
theorem VL.one {g:AE} {w:World} {cs:List AV} {vs:List Value} (h:VL g w cs vs) (ho:cs.all BE=true):∀u∈vs,u.oneCell'=true:=by
 intro u hu;obtain⟨j,hj,rfl⟩:=MV.1 hu;have hj':j<cs.length:=by rw[h.len]; omega
 exact JH (h.at_ j cs[j] _ (by simp) (by simp)) (C2.1 ho cs[j] (by simp))
theorem NB {E:Env} {L:A3} {g:AE} {w:World} {s s':AL} (hI:Inv E g w s) {t u T:TypeId} {ts:List TypeId} {d:TypeDesc} {x y v:AV} {xv yv:Value}
  (hx:V g w x xv) (hy:V g w y yv) (hu:E.P.underlying u=some d) (hd:∀k,d≠.int k) (h:Ii E.P L s t x y=some (v,s')) :
  ∃v' w' g',(Builtin.append_ (List.toArray (t::u::ts)) T #[xv,yv]).run E.P w=.ok v' w'/\V g' w' v v'/\Ext L g w g' w'/\Inv E g' w' s':=by
 unfold Ii at h;split at h
 .rename_i elem ht
  split at h
  .rename_i i hi
   split at h
   .rename_i hz
    obtain⟨hz,hk⟩:=hz
    obtain⟨z,hz1,hz2⟩:∃z,zeroOf E.P elem=some z/\z.length=i.size:=by
     cases hq:zeroOf E.P elem with
     | none=>simp[hq] at hz
     | some z=>simp[hq] at hz; exact⟨z,rfl,hz⟩
    obtain⟨i',zv,hi',je,_,hzl⟩:=Dd (g:=g) (w:=w) hz1;have:i'=i:=by rw[hi] at hi'; simpa using hi'.symm
    subst this;have hse:Dk E.P elem=some i'.size:=by simp[Dk,hi]
    have hzs:zv.cells.size=i'.size:=by rw[<-G8,<-hzl.len]; exact hz2
    split at h
    ·-- nothing is appended
     rename_i hsrc;obtain⟨n,us,hn,Bi,hfc,hvl⟩:=HF hI hy hk hsrc
     have hn0:n=0:=by
      rcases Nat.mul_eq_zero.1 Bi.symm with x|x
      .exact x
      .exact absurd x hk
     subst hn0;have hus:us=[]:=hvl.EL;subst hus
     have key:∀(base:Option Addr) (len cap:Nat),xv=.slice base len cap->len<=cap ->
       (Builtin.append_ (List.toArray (t::u::ts)) T #[xv,yv]).run E.P w=.ok xv w:=by
      intro base len cap e hle;subst e;rw[run_append_room T ts ht hi hu hd hn (hfc w rfl) (by omega)];cases base <;> rfl
     split at h
     .rename_i id off len sz
      cases hal:Tel.alive s id with
      | false=>grind
      | true=>
       simp only[hal,AN,Au,A0] at h;obtain⟨rfl,rfl⟩:=h;refine⟨xv,w,g,?_,hx,Ext.refl _ _ _,hI⟩;cases hx with
       | Ik hd=>exact absurd hd (hI.alive hal)
       | ref _ hcap=>grind
     grind[Dy,Ext.refl]
    ·-- something is appended
     rename_i c cs hsrc;split at h
     .rename_i hok
      obtain⟨n,us,hn,Bi,hfc,hvl⟩:=HF hI hy hk hsrc;have hone:=hvl.one hok;have hdiv:(c::cs).length / i'.size=n:=by grind[Nat.mul_div_cancel]
      have hnp:0<n:=by grind
      have qw:us.length=n*i'.size:=by rw[<-hvl.len]; omega
      simp only[hdiv] at h;split at h
      .rename_i id off len sz
       split at h
       .rename_i old hold
        split at h
        .rename_i hc
         obtain⟨rfl,rfl,hlo,hal,SX,Ll,hro⟩:=hc;simp only[Au,A0] at h;obtain⟨rfl,rfl⟩:=h;cases hx with
         | Ik hd=>exact absurd hd (hI.alive hal)
         | @ref _ _ _ _ b cap n' e H8 hcap hs hn'=>
          obtain⟨cs',vs,e',k1,k2,kle,k3⟩:=hI.blk id b H8;rw[hold] at k1; simp only[Au] at k1; subst k1;have hsh:vs.length=n':=by rw[Bh k2] at hs; grind
          have k4:VL g w (old.take (len*i'.size)) (vs.take (len*i'.size)):=by
           have:=k3.take (len*i'.size)
           grind
          by_cases hroom:len+n<=cap
          .have hbd:len*i'.size+us.length<=vs.length:=by
            have:=CO i'.size hroom
            grind
           have hst:=Fo (P:=E.P) (b:=b) (o:=len*i'.size) (e:=e') us 0 w vs hone k2 (by omega);have ZS:(old.take (len*i'.size)).length=len*i'.size:=by grind
           obtain⟨e1,e2⟩:=hI.sA (L:=L) (cs':=old.take (len*i'.size)++(c::cs)) (vs':=CA vs (len*i'.size) us) H8 k2 (Be _ _ _) hro
            (by grind[Be])
            (by rw[CD,Bi,<-qw,ZS,KX us vs _ hbd]; exact k4.append hvl)
           refine⟨_,_,_,?_,V.ref (b:=b) (e:=e') (n:=n') ?_ hroom ?_ hn',e1,e2⟩
           .simp[*,run_append_room,DN]
           all_goals grind[AE.Fi,Bh,BX,Be]
          .have hvt:(vs.take (len*i'.size)).length=len*i'.size:=by grind
           have ZS:(old.take (len*i'.size)).length=len*i'.size:=by grind
           have hos:(Builtin.firstCells i'.size len (.slice (some ⟨b,0,none⟩) len cap)).run E.P (BN w)=.ok (List.toArray (vs.take (len*i'.size))) (BN w):=by grind[Builtin.firstCells,EW,BN,Bg]
           obtain⟨G3,rest,NW,RL,hrun⟩:=run_append_grow (base:=some ⟨b,0,none⟩) (sCap:=cap) T ts ht hi hu hd hn (hfc (BN w) rfl) hos je (by omega) SX Ll;obtain⟨e1,i1⟩:=hI.drew (L:=L);obtain⟨e2,i2⟩:=i1.kill (L:=L) H8 hro;have hpre:(old.take (len*i'.size)++(c::cs)).length<=(vs.take (len*i'.size)++us++rest).length:=by grind
           have Vh:(vs.take (len*i'.size)++us++rest).take (old.take (len*i'.size)++(c::cs)).length=vs.take (len*i'.size)++us:=by
            rw[Ri (by grind)]
           obtain⟨e3,i3⟩:=i2.Qp (L:=L) (cs:=old.take (len*i'.size)++(c::cs)) (vs:=vs.take (len*i'.size)++us++rest) elem hpre (by rw[Vh]; exact((k4.append hvl).mono e1).mono e2);refine⟨_,_,_,hrun,?_,(e1.trans e2).trans e3,i3⟩;refine V.ref (b:=w.heap.size) (e:=elem) (n:=(vs.take (len*i'.size)++us++rest).length) ?_ NW ?_ ?_
           .simp[AE.Fi,BN]
           .exact Bh (by rw[Bv]; exact if_pos rfl)
           .simp only[CD,hvt,qw,RL,hzs]
            rw[<-EK,<-EK]
            grind
        grind
       grind
      .rename_i rows
       split at h
       .rename_i hc
        obtain⟨SX,Ll,hall⟩:=hc;have hl:=LF hall;cases hx with
        | @AA _ base b o sz f hr=>
         obtain⟨os,hfo,_,Sa⟩:=hr.Vg hk hl rows.length;obtain⟨G3,rest,NW,RL,hrun⟩:=run_append_grow (base:=base) (sCap:=rows.length) T ts ht hi hu hd hn (hfc (BN w) rfl) (Sa E.P (BN w) rfl) je (by omega) SX Ll;obtain⟨e1,i1⟩:=hI.drew (L:=L);cases Xq:L.mu elem with
         | true=>
          simp only[Xq,AN,Au,A0] at h;obtain⟨rfl,rfl⟩:=h;have hvo:=(hfo.vl hk).append hvl;have hlen:(rows.flatten.map AV.pv++(c::cs)).length=(os++us).length:=hvo.len;obtain⟨e3,i3⟩:=i1.Qp (L:=L) (cs:=rows.flatten.map .pv++(c::cs)) (vs:=os++us++rest) elem (by grind) (by rw[hlen,Ri rfl]; exact hvo.mono e1);refine⟨_,_,_,hrun,?_,e1.trans e3,i3⟩;refine V.ref (b:=w.heap.size) (e:=elem) (n:=(os++us++rest).length) ?_ NW ?_ ?_
          .simp[AE.Fi,BN]
          .exact Bh (by rw[Bv]; exact if_pos rfl)
          .simp only[CD,hfo.len,qw,RL,hzs]
           rw[<-EK,<-EK]
           grind
         | false=>
          simp only[Xq,AH] at h;split at h
          .rename_i ps hps
           simp only[Au,A0] at h;obtain⟨rfl,rfl⟩:=h;obtain⟨q1,q2⟩:=Gn hvl hps;have hfn:Flat g.I w (CR i'.size n ps) i'.size us:=H7 qw q1 q2;have sB:=hfo.append hfn
           have eP:(os++us++rest).length=G3*i'.size:=by
            simp only[CD,hfo.len,qw,RL,hzs];rw[<-EK,<-EK];rw[show rows.length+n+(G3-(rows.length+n))=G3 by omega]
           obtain⟨e3,i3⟩:=i1.Zg (L:=L) (t:=s.ts.length) (e:=elem) eP NW hk hse (.inl ⟨rfl,rfl⟩);have hrl:(rows++CR i'.size n ps).length=rows.length+n:=by grind[FK]
           refine⟨_,_,_,hrun,?_,e1.trans e3,i3⟩
           have hV:=Gq (g:=g.F5 s.ts.length ⟨(BN w).heap.size,G3,i'.size,rows.length+n,elem⟩) (w:=CW (BN w) (os++us++rest) elem) (t:=s.ts.length) (b:=(BN w).heap.size) (cap:=G3) (e:=elem)
            (by simp[AE.F5]) (sB.mono (e1.trans e3).mono (e1.trans e3).cell) hrl NW (λo ho=>.inr ⟨rfl,ho⟩) (λq u hq=>by
             rw[Bg (by rw[Bv]; exact if_pos rfl),CZ (C5 hq)]; omega)
           rw[hrl] at hV;exact hV
          grind
       grind
      .rename_i k rows
       split at h
       .rename_i hc
        obtain⟨SX,Ll,hts,Eb,hall⟩:=hc;have hl:=LF hall;split at h
        .rename_i ps hps
         simp only[Au,A0] at h;obtain⟨rfl,rfl⟩:=h;obtain⟨q1,q2⟩:=Gn hvl hps;have hfn:Flat g.I w (CR i'.size n ps) i'.size us:=H7 qw q1 q2;have hrl:(rows++CR i'.size n ps).length=rows.length+n:=by grind[FK]
         cases hx with
         | @own _ _ base b o sz cap f l hr hcap Vh N7 hf=>
          obtain⟨l',dz,Pb,AU5⟩:=hI.Fl k _ _ hts;have:l'=l:=by grind
          subst this;obtain⟨rfl,rfl,rfl,rfl,rfl⟩:=hf Pb.symm;obtain⟨os,hfo,hco,Sa⟩:=hr.Vg hk hl l'.cap;have sB:=hfo.append hfn;obtain⟨vs,fz,hh,AU7,hnc,hsz,hfz,hsl⟩:=hI.tok k l' Vh;have jf:l'.sz=i'.size:=by grind
          by_cases hroom:rows.length+n<=l'.cap
          .have hbd:l'.n*l'.sz+us.length<=vs.length:=by
            have:=CO i'.size hroom
            grind[Nat.add_mul]
           have hst:=FG (P:=E.P) (b:=l'.b) (o:=l'.n*l'.sz) (e:=l'.e) hfz us 0 w vs hone hh (by omega);obtain⟨e3,i3⟩:=hI.AEW (L:=L) (n:=rows.length+n) (us:=us) Vh hh (by omega) hroom Eb;have i3':Inv E (g.F5 k { l' with n:=rows.length+n }) (BI w l'.b (CA vs (l'.n*l'.sz) us) l'.e fz) { s with ts:=s.ts.set k (rows.length+n,elem) }:=by grind
           refine⟨.slice (some ⟨l'.b,0,none⟩) (rows.length+n) l'.cap,_,_,?_,?_,e3,i3'⟩
           .simp_all[run_append_room,DN]
           .have hV:=Gq (g:=g.F5 k { l' with n:=rows.length+n }) (w:=BI w l'.b (CA vs (l'.n*l'.sz) us) l'.e fz) (t:=k) (b:=l'.b) (cap:=l'.cap) (sz:=l'.sz) (e:=l'.e)
             (by simp[AE.F5]) (Flat.ANr jf.symm (sB.mono e3.mono e3.cell)) hrl hroom (λo ho=>.inr ⟨rfl,ho⟩) (λq u hq=>by
              rw[Bg (by rw[BX,if_pos rfl,if_pos (hI.Ff Vh)])];rcases FX q os.length with x|x
              .rw[CZ x] at hq
               have:=(hco q u hq).2;rw[Bg hh,CP] at this;rw[FH us vs _ _ (.inl (by rw[Pb,jf,<-hfo.len]; exact x))];omega
              .rw[E3 x] at hq
               have:=Gp us vs (l'.n*l'.sz) _ u hq hbd;rw[Pb,jf,<-hfo.len,show os.length+(q-os.length)=q by omega] at this;rw[Pb,jf,<-hfo.len];omega)
            grind
          .obtain⟨G3,rest,NW,RL,hrun⟩:=run_append_grow (base:=some ⟨l'.b,0,none⟩) (sCap:=l'.cap) T ts ht hi hu hd hn (hfc (BN w) rfl) (Sa E.P (BN w) rfl) je (by omega) SX Ll
           obtain⟨e1,i1⟩:=hI.drew (L:=L)
           have eP:(os++us++rest).length=G3*i'.size:=by
            simp only[CD,hfo.len,qw,RL,hzs];rw[<-EK,<-EK];rw[show rows.length+n+(G3-(rows.length+n))=G3 by omega]
           obtain⟨e3,i3⟩:=i1.Zg (L:=L) (t:=k) (e:=elem) eP NW hk hse (.inr ⟨l',Vh,by omega,Eb,rfl⟩);refine⟨_,_,_,hrun,?_,e1.trans e3,i3⟩
           have hV:=Gq (g:=g.F5 k ⟨(BN w).heap.size,G3,i'.size,rows.length+n,elem⟩) (w:=CW (BN w) (os++us++rest) elem) (t:=k) (b:=(BN w).heap.size) (cap:=G3) (e:=elem)
            (by simp[AE.F5]) (sB.mono (e1.trans e3).mono (e1.trans e3).cell) hrl NW (λo ho=>.inr ⟨rfl,ho⟩) (λq u hq=>by
             rw[Bg (by rw[Bv]; exact if_pos rfl),CZ (C5 hq)]; omega)
           rw[hrl] at hV;exact hV
        grind
       grind
      grind
     grind
    grind
   grind
  grind
 grind
end Go.Tel
