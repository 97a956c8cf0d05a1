/-
  A range over a function: blocks that are none of the evaluator's, marks, and what the iterator of slices.Backward promises.
-/
import Derived.Test.YtpgfpakdnijngaaGreatDoorEvH
import Derived.RangeFuncSeq
set_option linter.all false
namespace Go.Tel
structure Y4 (g:AP) (b:Nat):Prop where
 blk:∀id,g.blk id≠some b
 tok:∀t l,g.tok t=some l->l.b≠b
 mp:∀id,g.mp id≠some b
 I:∀o,¬ g.I b o
theorem Y4.ext {L:BL} {g g':AP} {w w':World} {b:Nat} (h:Y4 g b) (e:Ext L g w g' w') (hb:b<w.heap.size):Y4 g' b/\w'.heap[b]?=w.heap[b]?:=by
 obtain⟨h1,h2⟩:=e.out b hb h.blk h.tok h.mp
 exact⟨⟨λid q=>by obtain⟨FO,q0⟩:=e.HR id b q hb; exact h.blk FO q0,
  λt l q hq=>by obtain⟨l0,q0,q1⟩:=e.K3 t l q (hq ▸ hb); exact h.tok t l0 q0 (q1.trans hq),
  λid q=>by obtain⟨FO,q0⟩:=e.K2 id b q hb; exact h.mp FO q0,
  λo ho=>h.I o (h2 o ho)⟩,h1⟩
def ACj (D:Nat):Deferred:={ target:=.collected D,args:=#[] }
def Marks (n:Nat) (ds:List Deferred) (g':AP) (w':World) (ds':List Deferred):Prop:=
 ∃Ds:List Nat,ds'=Ds.map ACj++ds/\Ds.Nodup/\∀D∈Ds,n<=D/\w'.heap[D]?=some (.deferred (some []))/\Y4 g' D
theorem Marks.refl (n:Nat) (ds:List Deferred) (g:AP) (w:World):Marks n ds g w ds:=⟨[],rfl,.nil,λ_ h=>by cases h⟩
theorem Marks.trans {L:BL} {n m:Nat} {ds ds1 ds2:List Deferred} {g g':AP} {w w':World} (h:Marks n ds g w ds1) (e:Ext L g w g' w') (hm:m=w.heap.size) (hn:n<=m) (k:Marks m ds1 g' w' ds2):Marks n ds g' w' ds2:=by
 subst hm;obtain⟨Ds,h1,h2,h3⟩:=h;obtain⟨Es,k1,k2,k3⟩:=k;refine⟨Es++Ds,AB,?_,λD hD=>?_⟩
 .grind
 .rcases B4.1 hD with hD|hD
  .grind
  .obtain⟨a,b,c⟩:=h3 D hD
   obtain⟨d1,d2⟩:=c.ext e (TJ b)
   grind
theorem Cq {w:World} {b k:Nat} (o:Obj) (h:k≠b):(w.putObj b o).heap[k]?=w.heap[k]?:=World.putObj_heap_other h
theorem VP.put {g:AP} {w:World} {b:Nat} (h:Y4 g b) (o:Obj) {p:PV} {v:Value} (hv:VP g.I w p v):VP g.I (w.putObj b o) p v:=
 hv.mono (λ_ _ h=>h) λk i hi=>Ck (Cq o λ(e:k=b)=>h.I i (e ▸ hi)) i
theorem V.put {g:AP} {w:World} {b:Nat} (h:Y4 g b) (o:Obj) {x:AV} {v:Value} (hv:V g w x v):V g (w.putObj b o) x v:=by
 have hc:∀k i,g.I k i->(w.putObj b o).cell? ⟨k,i,none⟩=w.cell? ⟨k,i,none⟩:=λk i hi=>Ck (Cq o λ(e:k=b)=>h.I i (e ▸ hi)) i
 have hs:∀id k,g.blk id=some k->(w.putObj b o).shape? k=w.shape? k:=λid k hk=>ED (Cq o λ(e:k=b)=>h.blk id (e ▸ hk))
 induction hv with
 | pv hv=>exact .pv (hv.put h o)
 | ptr h=>exact .ptr h
 | Li h=>exact .Li h
 | Dt gl off=>grind[Dt]
 | Cw off f hf=>exact .Cw off f λj c hj=>⟨(hf j c hj).1,AB,(hf j c hj).2.2.put h o⟩
 | AE hr=>exact .AE (hr.mono (λ_ _ h=>h) hc)
 | own hr hcap ht hn hf=>exact .own (hr.mono (λ_ _ h=>h) hc) hcap ht hn hf
 | ref hb hcap hsh hn=>grind[ref]
 | JI h=>exact .JI h
 | Gh=>exact .Gh
 | HQ h=>exact .HQ h
 | bz hb hsh=>grind[bz]
 | ru h=>exact .ru h
 | func hl hm _ _ ih ik=>grind[func]
 | iface _ ih=>exact .iface ih
 | agg hl _ ih=>grind[agg]
 | tuple hl _ ih=>grind[tuple]
theorem Inv.AF2 {E:Env} {g:AP} {w:World} {s:AQ} {b:Nat} (h:Inv E g w s) (hb:Y4 g b) (o:Obj):Inv E g (w.putObj b o) s:=
 {h with
  blk:=λid k hk=>by
   obtain⟨cs,us,e,h1,h2,h3,h4⟩:=h.blk id k hk;exact⟨cs,us,e,h1,(Cq o λ(q:k=b)=>hb.blk id (q ▸ hk)).trans h2,h3,⟨h4.len,λi c v hc hv=>(h4.at_ i c v hc hv).put hb o⟩⟩
  tok:=λt l hl=>by
   obtain⟨us,e,h1,h2⟩:=h.tok t l hl;exact⟨us,e,(Cq o λq=>hb.tok t l hl q).trans h1,h2⟩
  Kf:=λk i hi=>by rw[World.putObj_size]; exact h.Kf k i hi
  mp:=h.Iv (λ_ _ _=>rfl) (λid k hk=>Cq o λ(q:k=b)=>hb.mp id (q ▸ hk))
  Fv:=λgl row hr j c hj=>by
   obtain⟨v,h1,h2,h3⟩:=h.Fv gl row hr j c hj;exact⟨v,h1,(Ck (Cq o λ(q:gl=b)=>hb.I j (q ▸ h1)) j).trans h2,h3.put hb o⟩
  Dc:=λgl row hr=>by
   obtain⟨h1,h2⟩:=h.Dc gl row hr;exact⟨h1,(Ck (Cq o λ(q:gl=b)=>hb.I row.length (q ▸ h1)) row.length).trans h2⟩ }
theorem Ext.AF2 {L:BL} {g g':AP} {w w':World} {b:Nat} (h:Ext L g w g' w') (hb:w.heap.size<=b) (ho:Y4 g' b) (IY:∀id k,g.blk id=some k->k<w.heap.size) (htok:∀t l,g.tok t=some l->l.b<w.heap.size)
  (hmp:∀id k,g.mp id=some k->k<w.heap.size) (o:Obj):Ext L g w g' (w'.putObj b o):=
 {h with
  size:=by rw[World.putObj_size]; exact h.size
  cell:=λk i hi=>(Ck (Cq o λ(e:k=b)=>ho.I i (e ▸ h.mono k i hi)) i).trans (h.cell k i hi)
  shape:=λid k hk hk'=>(ED (Cq o λe=>by grind)).trans (h.shape id k hk hk')
  Ga:=λid k hk hlt=>⟨(h.Ga id k hk hlt).1,(Cq o λe=>by grind).trans (h.Ga id k hk hlt).2⟩
  F0:=λt l hl hlt=>⟨(h.F0 t l hl hlt).1,(Cq o λe=>by grind).trans (h.F0 t l hl hlt).2.1,(h.F0 t l hl hlt).2.2⟩
  out:=λk hk h1 h2 h3=>⟨(Cq o λe=>by omega).trans (h.out k hk h1 h2 h3).1,(h.out k hk h1 h2 h3).2⟩
  F1:=λid k hk=>⟨λhlt=>(Cq o λe=>by grind).trans ((h.F1 id k hk).1 hlt),(h.F1 id k hk).2⟩ }
structure Wc (P:Program) (k:FuncId) (el:TypeId):Prop where
 body:∃fn,P.funcs[k]?=some fn/\fn.body.isSome=true/\(fn.name== "runtime.NumGoroutine")=false
 run:∀(sz:Nat),D2 P el=some sz->∀(l b len cap:Nat) (base:Option Addr) (W:World) (J:Nat->World->Prop) (Jx:World->Prop),len<=1000000000000000000 ->
  W.cell? ⟨b,0,none⟩=some (.slice base len cap) ->
  (∀j W1,j<len->J (j+1) W1->W1.cell? ⟨b,0,none⟩=some (.slice base len cap)/\∃bb o x,base=some ⟨bb,o,none⟩/\(∀q,q<sz->∃v,W1.cell? ⟨bb,o+j*sz+q,none⟩=some v)/\(Instr.loadAt el (.pointer (some ⟨bb,o+j*sz,none⟩))).run P W1=.ok x W1 /\
   YieldAt (FW none) 0 P l #[.int .i64 j,x] W1 λe W'=>(e=.returned (.bool true)/\J j W')\/(e=.returned (.bool false)/\Jx W')) ->
  J len W ->
  CallsIn (FW none) 0 P k #[.func (.yield l) #[] #[],.pointer (some ⟨b,0,none⟩)] W λe W'=>(∃v,e=.returned v)/\(J 0 W'\/Jx W')
theorem Vn {P:Program} {w:World} {t:TypeId} {fs:Array Field} {i:TypeInfo} {b o:Nat} (vs:List Value) (hu:P.underlying t=some (.struct fs)) (hi:P.info? t=some i) (hl:vs.length=i.size)
  (hc:∀j u,vs[j]?=some u->w.cell? ⟨b,o+j,none⟩=some u):(Instr.loadAt t (.pointer (some ⟨b,o,none⟩))).run P w=.ok (.agg vs.toArray) w:=by
 have:=Ek (P:=P) (w:=w) (b:=b) (o:=o) vs hc
 simp_all[Instr.loadAt,Instr.sureAddr,loadVar,isAgg,run_underlying,run_sizeOf]
end Go.Tel
