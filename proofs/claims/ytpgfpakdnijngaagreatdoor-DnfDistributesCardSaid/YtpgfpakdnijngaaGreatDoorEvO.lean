/-
  A range over a function: blocks that are none of the evaluator's, marks, and what the iterator of slices.Backward promises.
-/
import Derived.Test.YtpgfpakdnijngaaGreatDoorEvH
import Derived.RangeFuncSeq
set_option linter.unusedSimpArgs false
set_option linter.unusedVariables false
namespace Go.Tel
theorem iW {a b:Nat} (h:a≠b):Nat.beq a b=false:=by
 rw[Mo];exact fun q=>h (BM q)
structure Nw (g:AH) (b:Nat):Prop where
 blk:∀ id,g.blk id≠some b
 tok:∀ t l,g.tok t=some l->l.b≠b
 mp:∀ id,g.mp id≠some b
 I:∀ o,¬ g.I b o
theorem Nw.ext {L:A0} {g g':AH} {w w':World} {b:Nat} (h:Nw g b) (e:Ext L g w g' w') (hb:b<w.heap.size):Nw g' b/\w'.heap[b]?=w.heap[b]?:=by
 obtain⟨h1,h2⟩:=e.out b hb h.blk h.tok h.mp
 exact⟨⟨fun id q=>by obtain⟨FR,q0⟩:=e.Gk id b q hb; exact h.blk FR q0,
  fun t l q hq=>by obtain⟨l0,q0,q1⟩:=e.JU t l q (hq ▸ hb); exact h.tok t l0 q0 (q1.trans hq),
  fun id q=>by obtain⟨FR,q0⟩:=e.JT id b q hb; exact h.mp FR q0,
  fun o ho=>h.I o (h2 o ho)⟩,h1⟩
def Ze (D:Nat):Deferred:={ target:=.collected D,args:=#[] }
def Marks (n:Nat) (ds:List Deferred) (g':AH) (w':World) (ds':List Deferred):Prop:=
 ∃ Ds:List Nat,ds'=Ds.map Ze++ds/\Ds.Nodup/\∀ D∈Ds,n<=D/\w'.heap[D]?=some (.deferred (some []))/\Nw g' D
theorem Marks.refl (n:Nat) (ds:List Deferred) (g:AH) (w:World):Marks n ds g w ds:=⟨[],rfl,.nil,fun _ h=>by cases h⟩
theorem Marks.trans {L:A0} {n m:Nat} {ds ds1 ds2:List Deferred} {g g':AH} {w w':World} (h:Marks n ds g w ds1) (e:Ext L g w g' w') (hm:m=w.heap.size) (hn:n<=m) (k:Marks m ds1 g' w' ds2):Marks n ds g' w' ds2:=by
 subst hm;obtain⟨Ds,h1,h2,h3⟩:=h;obtain⟨Es,k1,k2,k3⟩:=k;refine⟨Es++Ds,by rw[k1,h1]; simp,?_,fun D hD=>?_⟩
 ·refine OQ.2 ⟨k2,h2,fun a ha b hb hab=>?_⟩
  subst hab;have:=EI (h3 a hb).2.1;have:=(k3 a ha).1;omega
 ·rcases BL.1 hD with hD|hD
  ·obtain⟨a,b,c⟩:=k3 D hD
   exact⟨by omega,b,c⟩
  ·obtain⟨a,b,c⟩:=h3 D hD
   obtain⟨d1,d2⟩:=c.ext e (EI b);exact⟨a,d2.trans b,d1⟩
theorem Inv.AAi {E:Env} {L:A0} {g:AH} {w:World} {s:AK} (h:Inv E g w s) (o:Obj):Ext L g w g (w.alloc o)/\Inv E g (w.alloc o) s/\Nw g w.heap.size:=by
 have hsz:(HE w o).heap.size=w.heap.size+1:=by simp[HE]
 have ext:Ext L g w g (HE w o):={
  os:=rfl,tape:=rfl,output:=rfl,size:=by rw[hsz]; exact Mj _
  mono:=fun _ _ hi=>hi
  cell:=fun k o hi=>Bn (BD (h.Il k o hi)) o
  blk:=fun _ _ hb=>.inl hb
  dead:=fun _ hd=>hd
  shape:=fun id b hb _=>DC (BD (h.C4 hb))
  tok:=fun _ l hl=>⟨l,hl,.inl rfl⟩
  Fa:=fun id b hb _=>⟨hb,BD (h.C4 hb)⟩
  FI:=fun t l hl _=>⟨hl,BD (h.EE hl),fun o ho=>ho⟩
  out:=fun k hk _ _ _=>⟨BD hk,fun o ho=>ho⟩
  mp:=fun _ _ hb=>hb
  FJ:=fun _ b' hb'=>⟨fun _=>BD (h.I9 hb'),fun o ho=>ho⟩
  JT:=fun id' _ hb _=>⟨id',hb⟩
  Gk:=fun id _ hb _=>⟨id,hb⟩
  C1:=fun _ h=>h
  JU:=fun _ l hl _=>⟨l,hl,rfl⟩ }
 refine⟨ext,?_,⟨fun id hb=>by have:=h.C4 hb; omega,fun t l hl e=>by have:=h.EE hl; omega,fun id hb=>by have:=h.I9 hb; omega,fun o ho=>by have:=h.Il _ o ho; omega⟩⟩
 show Inv E g (HE w o) s
 exact { h with
  blk:=fun id b hb=>by
   obtain⟨cs',us,e',h1,h2,h3,h4⟩:=h.blk id b hb;exact⟨cs',us,e',h1,by rw[BD (h.C4 hb)]; exact h2,h3,h4.mono ext⟩
  tok:=fun t l hl=>by
   obtain⟨us,e',h1,h2⟩:=h.tok t l hl;exact⟨us,e',by rw[BD (h.EE hl)]; exact h1,h2⟩
  Il:=fun k o hi=>by rw[hsz]; have:=h.Il k o hi; omega
  mp:=h.Hj (fun _ _ _=>rfl) (fun _ _ hb'=>BD (h.I9 hb'))
  Ey:=fun gl row hr j c hj=>by
   obtain⟨v,h1,h2,h3⟩:=h.Ey gl row hr j c hj;exact⟨v,h1,by rw[ext.cell _ _ h1]; exact h2,h3.mono ext.mono ext.cell⟩
  C3:=fun gl row hr=>by
   obtain⟨h1,h2⟩:=h.C3 gl row hr;exact⟨h1,by rw[ext.cell _ _ h1]; exact h2⟩ }
theorem Cg {w:World} {b k:Nat} (o:Obj) (h:k≠b):(w.putObj b o).heap[k]?=w.heap[k]?:=World.putObj_heap_other h
theorem VP.put {g:AH} {w:World} {b:Nat} (h:Nw g b) (o:Obj) {p:PV} {v:Value} (hv:VP g.I w p v):VP g.I (w.putObj b o) p v:=
 hv.mono (fun _ _ h=>h) fun k i hi=>Bn (Cg o fun(e:k=b)=>h.I i (e ▸ hi)) i
theorem V.put {g:AH} {w:World} {b:Nat} (h:Nw g b) (o:Obj) {x:AV} {v:Value} (hv:V g w x v):V g (w.putObj b o) x v:=by
 have hc:∀ k i,g.I k i->(w.putObj b o).cell? ⟨k,i,none⟩=w.cell? ⟨k,i,none⟩:=fun k i hi=>Bn (Cg o fun(e:k=b)=>h.I i (e ▸ hi)) i
 have hs:∀ id k,g.blk id=some k->(w.putObj b o).shape? k=w.shape? k:=fun id k hk=>DC (Cg o fun(e:k=b)=>h.blk id (e ▸ hk))
 induction hv with
 | pv hv=>exact .pv (hv.put h o)
 | ptr h=>exact .ptr h
 | Ki h=>exact .Ki h
 | De gl off=>exact .De gl off
 | DK off f hf=>exact .DK off f fun j c hj=>⟨(hf j c hj).1,by rw[hc _ _ (hf j c hj).1]; exact(hf j c hj).2.1,(hf j c hj).2.2.put h o⟩
 | AA hr=>exact .AA (hr.mono (fun _ _ h=>h) hc)
 | own hr hcap ht hn hf=>exact .own (hr.mono (fun _ _ h=>h) hc) hcap ht hn hf
 | ref hb hcap hsh hn=>exact .ref hb hcap ((hs _ _ hb).trans hsh) hn
 | I8 h=>exact .I8 h
 | HU=>exact .HU
 | Fg h=>exact .Fg h
 | bz hb hsh=>exact .bz hb ((hs _ _ hb).trans hsh)
 | nQ h=>exact .nQ h
 | func hl hm _ _ ih ik=>exact .func hl hm ih ik
 | iface _ ih=>exact .iface ih
 | agg hl _ ih=>exact .agg hl ih
 | tuple hl _ ih=>exact .tuple hl ih
theorem Inv.ML {E:Env} {g:AH} {w:World} {s:AK} {b:Nat} (h:Inv E g w s) (hb:Nw g b) (o:Obj):Inv E g (w.putObj b o) s:=
 {h with
  blk:=fun id k hk=>by
   obtain⟨cs,us,e,h1,h2,h3,h4⟩:=h.blk id k hk;exact⟨cs,us,e,h1,(Cg o fun(q:k=b)=>hb.blk id (q ▸ hk)).trans h2,h3,⟨h4.len,fun i c v hc hv=>(h4.at_ i c v hc hv).put hb o⟩⟩
  tok:=fun t l hl=>by
   obtain⟨us,e,h1,h2⟩:=h.tok t l hl;exact⟨us,e,(Cg o fun q=>hb.tok t l hl q).trans h1,h2⟩
  Il:=fun k i hi=>by rw[World.putObj_size]; exact h.Il k i hi
  mp:=h.Hj (fun _ _ _=>rfl) (fun id k hk=>Cg o fun(q:k=b)=>hb.mp id (q ▸ hk))
  Ey:=fun gl row hr j c hj=>by
   obtain⟨v,h1,h2,h3⟩:=h.Ey gl row hr j c hj;exact⟨v,h1,(Bn (Cg o fun(q:gl=b)=>hb.I j (q ▸ h1)) j).trans h2,h3.put hb o⟩
  C3:=fun gl row hr=>by
   obtain⟨h1,h2⟩:=h.C3 gl row hr;exact⟨h1,(Bn (Cg o fun(q:gl=b)=>hb.I row.length (q ▸ h1)) row.length).trans h2⟩ }
theorem Ext.ML {L:A0} {g g':AH} {w w':World} {b:Nat} (h:Ext L g w g' w') (hb:w.heap.size<=b) (ho:Nw g' b) (F2:∀ id k,g.blk id=some k->k<w.heap.size) (ANv:∀ t l,g.tok t=some l->l.b<w.heap.size)
  (hmp:∀ id k,g.mp id=some k->k<w.heap.size) (o:Obj):Ext L g w g' (w'.putObj b o):=
 {h with
  size:=by rw[World.putObj_size]; exact h.size
  cell:=fun k i hi=>(Bn (Cg o fun(e:k=b)=>ho.I i (e ▸ h.mono k i hi)) i).trans (h.cell k i hi)
  shape:=fun id k hk hk'=>(DC (Cg o fun e=>by have:=F2 id k hk; omega)).trans (h.shape id k hk hk')
  Fa:=fun id k hk hlt=>⟨(h.Fa id k hk hlt).1,(Cg o fun e=>by have:=F2 id k hk; omega).trans (h.Fa id k hk hlt).2⟩
  FI:=fun t l hl hlt=>⟨(h.FI t l hl hlt).1,(Cg o fun e=>by have:=ANv t l hl; omega).trans (h.FI t l hl hlt).2.1,(h.FI t l hl hlt).2.2⟩
  out:=fun k hk h1 h2 h3=>⟨(Cg o fun e=>by omega).trans (h.out k hk h1 h2 h3).1,(h.out k hk h1 h2 h3).2⟩
  FJ:=fun id k hk=>⟨fun hlt=>(Cg o fun e=>by have:=hmp id k hk; omega).trans ((h.FJ id k hk).1 hlt),(h.FJ id k hk).2⟩ }
structure SB (P:Program) (k:FuncId) (el:TypeId):Prop where
 body:∃ fn,P.funcs[k]?=some fn/\fn.body.isSome=true/\(fn.name== "runtime.NumGoroutine")=false
 run:∀ (sz:Nat),Dd P el=some sz->∀ (l b len cap:Nat) (base:Option Addr) (W:World) (J:Nat->World->Prop) (Jx:World->Prop),len<=1000000000000000000 ->
  W.cell? ⟨b,0,none⟩=some (.slice base len cap) ->
  (∀ j W1,j<len->J (j+1) W1->W1.cell? ⟨b,0,none⟩=some (.slice base len cap)/\∃ bb o x,base=some ⟨bb,o,none⟩/\(∀ q,q<sz->∃ v,W1.cell? ⟨bb,o+j*sz+q,none⟩=some v)/\(Instr.loadAt el (.pointer (some ⟨bb,o+j*sz,none⟩))).run P W1=.ok x W1 /\
   YieldAt (FW none) 0 P l #[.int .i64 j,x] W1 fun e W'=>(e=.returned (.bool true)/\J j W')\/(e=.returned (.bool false)/\Jx W')) ->
  J len W ->
  CallsIn (FW none) 0 P k #[.func (.yield l) #[] #[],.pointer (some ⟨b,0,none⟩)] W fun e W'=>(∃ v,e=.returned v)/\(J 0 W'\/Jx W')
theorem UZ {P:Program} {w:World} {t:TypeId} {fs:Array Field} {i:TypeInfo} {b o:Nat} (vs:List Value) (hu:P.underlying t=some (.struct fs)) (hi:P.info? t=some i) (hl:vs.length=i.size)
  (hc:∀ j u,vs[j]?=some u->w.cell? ⟨b,o+j,none⟩=some u):(Instr.loadAt t (.pointer (some ⟨b,o,none⟩))).run P w=.ok (.agg vs.toArray) w:=by
 have:=Em (P:=P) (w:=w) (b:=b) (o:=o) vs hc;rw[hl] at this;simp[Instr.loadAt,Instr.sureAddr,loadVar,isAgg,run_underlying hu,run_sizeOf hi,this]
end Go.Tel
