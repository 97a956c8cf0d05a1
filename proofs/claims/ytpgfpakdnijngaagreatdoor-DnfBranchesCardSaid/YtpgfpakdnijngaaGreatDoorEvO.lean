/-
  A range over a function: blocks that are none of the evaluator's, marks, and what the iterator of slices.Backward promises.
-/
import Derived.Test.YtpgfpakdnijngaaGreatDoorEvH
import Derived.RangeFuncSeq
set_option linter.all false
namespace Go.Tel
open Option renaming some->Y,none->G
open Bool renaming true->Z,false->ϴ
open Go renaming World->ϙ
def lH {a b:Nat} (h:a≠b):Nat.beq a b=false:=by grind[Nat.eq_of_beq_eq_true]
structure Ou (g:AZ) (b:Nat):Prop where
 blk:∀id,g.blk id≠Y b
 tok:∀t l,g.tok t=Y l->l.b≠b
 mp:∀id,g.mp id≠Y b
 I:∀o,¬ g.I b o
def Ou.ext {L:Ba} {g g':AZ} {w w':ϙ} {b:Nat} (h:Ou g b) (e:Ext L g w g' w') (hb:b<w.heap.size):Ou g' b/\w'.heap[b]?=w.heap[b]?:=by
 have⟨i,j⟩:=e.out b hb h.blk h.tok h.mp
 exact⟨⟨λid q=>by have⟨d,q0⟩:=e.HY id b q hb; exact h.blk d q0,
  λt l q f=>by have⟨k,q0,q1⟩:=e.K5 t l q (f ▸ hb); exact h.tok t k q0 (q1.trans f),
  λid q=>by have⟨d,q0⟩:=e.K4 id b q hb; exact h.mp d q0,
  λo m=>h.I o (j o m)⟩,i⟩
def bQ (D:Nat):Deferred:={ target:=.collected D,args:=#[] }
def Marks (n:Nat) (ds:List Deferred) (g':AZ) (w':ϙ) (d:List Deferred):Prop:=
 ∃b:Ϟ,d=b.map bQ++ds/\b.Nodup/\∀D∈b,n<=D/\w'.heap[D]?=Y (.deferred (Y []))/\Ou g' D
theorem Marks.refl (n:Nat) (ds:List Deferred) (g:AZ) (w:ϙ):Marks n ds g w ds:=⟨[],rfl,.nil,λ_ h=>by cases h⟩
def Marks.trans {L:Ba} {n m:Nat} {ds d f:List Deferred} {g g':AZ} {w w':ϙ} (h:Marks n ds g w d) (e:Ext L g w g' w') (hm:m=w.heap.size) (hn:n<=m) (k:Marks m d g' w' f):Marks n ds g' w' f:=by
 subst hm;obtain⟨i,o,p,j⟩:=h;obtain⟨l,k1,k2,k3⟩:=k;refine⟨l++i,AB,?_,λD hD=>?_⟩
 .grind
 .rcases CU.1 hD with hD|hD
  .grind
  .have⟨a,b,c⟩:=j D hD
   have⟨r,s⟩:=c.ext e (II b)
   grind
def Inv.ABS {E:Env} {L:Ba} {g:AZ} {w:ϙ} {s:AY} (h:Inv E g w s) (o:Obj):Ext L g w g (w.alloc o)/\Inv E g (w.alloc o) s/\Ou g w.heap.size:=by
 have r:(Mk w o).heap.size=w.heap.size+1:=by simp[Mk]
 have ext:Ext L g w g (Mk w o):={
  os:=rfl,tape:=rfl,output:=rfl,size:=AA
  mono:=λ_ _ f=>f
  cell:=λk o f=>Cg (CW (h.KZ k o f)) o
  blk:=λ_ _ hb=>.inl hb
  dead:=λ_ y=>y
  shape:=λid b hb _=>EA (CW (h.EY hb))
  tok:=λ_ l hl=>⟨l,hl,.inl rfl⟩
  GK:=λid b hb _=>⟨hb,CW (h.EY hb)⟩
  F5:=λt l hl _=>⟨hl,CW (h.GM hl),λo d=>d⟩
  out:=λk z _ _ _=>⟨CW z,λo d=>d⟩
  mp:=λ_ _ hb=>hb
  F6:=λ_ C i=>⟨λ_=>CW (h.L6 i),λo d=>d⟩
  K4:=λu _ hb _=>⟨u,hb⟩
  HY:=λid _ hb _=>⟨id,hb⟩
  Db:=λ_ h=>h
  K5:=λ_ l hl _=>⟨l,hl,rfl⟩ }
 refine⟨ext,?_,⟨λid hb=>by have:=h.EY hb; omega,λt l hl e=>by have:=h.GM hl; omega,λid hb=>by have:=h.L6 hb; omega,λo d=>by have:=h.KZ _ o d; omega⟩⟩
 show Inv E g (Mk w o) s
 exact { h with
  blk:=λid b hb=>by
   have⟨x,us,e',h1,h2,h3,A⟩:=h.blk id b hb;exact⟨x,us,e',h1,by grind[CW],h3,A.mono ext⟩
  tok:=λt l hl=>by
   have⟨us,e',h1,h2⟩:=h.tok t l hl
   grind[CW]
  KZ:=λk o f=>by rw[r]; have:=h.KZ k o f; omega
  mp:=h.IJ (λ_ _ _=>rfl) (λ_ _ i=>CW (h.L6 i))
  GF:=λn m p j c B=>by
   have⟨v,h1,h2,h3⟩:=h.GF n m p j c B;exact⟨v,h1,by rw[ext.cell _ _ h1]; omega,h3.mono ext.mono ext.cell⟩
  D4:=λn m p=>by
   have⟨h1,h2⟩:=h.D4 n m p;exact⟨h1,by rw[ext.cell _ _ h1]; omega⟩ }
def DD {w:ϙ} {b k:Nat} (o:Obj) (h:k≠b):(w.putObj b o).heap[k]?=w.heap[k]?:=World.putObj_heap_other h
theorem VP.put {g:AZ} {w:ϙ} {b:Nat} (h:Ou g b) (o:Obj) {p:PV} {v:Value} (d:VP g.I w p v):VP g.I (w.putObj b o) p v:=
 d.mono (λ_ _ h=>h) λk i f=>Cg (DD o λ(e:k=b)=>h.I i (e ▸ f)) i
theorem V.put {g:AZ} {w:ϙ} {b:Nat} (h:Ou g b) (o:Obj) {x:AV} {v:Value} (l:V g w x v):V g (w.putObj b o) x v:=by
 have r:∀k i,g.I k i->(w.putObj b o).cell? ⟨k,i,G⟩=w.cell? ⟨k,i,G⟩:=λk i y=>Cg (DD o λ(e:k=b)=>h.I i (e ▸ y)) i
 have B:∀id k,g.blk id=Y k->(w.putObj b o).shape? k=w.shape? k:=λid k z=>EA (DD o λ(e:k=b)=>h.blk id (e ▸ z))
 induction l with
 | pv l=>exact .pv (l.put h o)
 | ptr h=>exact .ptr h
 | LS h=>exact .LS h
 | EF C p=>grind[EF]
 | DF p f hf=>exact .DF p f λj c s=>⟨(hf j c s).1,AB,(hf j c s).2.2.put h o⟩
 | AE m=>exact .AE (m.mono (λ_ _ h=>h) r)
 | own m n A hn hf=>exact .own (m.mono (λ_ _ h=>h) r) n A hn hf
 | ref hb n u hn=>grind[ref]
 | Jb h=>exact .Jb h
 | Gy=>exact .Gy
 | Hl h=>exact .Hl h
 | bz hb u=>grind[bz]
 | ql h=>exact .ql h
 | func t hm _ _ d D=>grind[func]
 | iface _ d=>exact .iface d
 | agg t _ d=>grind[agg]
 | tuple t _ d=>grind[tuple]
def Inv.M6 {E:Env} {g:AZ} {w:ϙ} {s:AY} {b:Nat} (h:Inv E g w s) (hb:Ou g b) (o:Obj):Inv E g (w.putObj b o) s:=
 {h with
  blk:=λid k m=>by
   have⟨u,us,e,h1,h2,h3,p⟩:=h.blk id k m;exact⟨u,us,e,h1,(DD o λ(q:k=b)=>hb.blk id (q ▸ m)).trans h2,h3,⟨p.len,λi c v x y=>(p.at_ i c v x y).put hb o⟩⟩
  tok:=λt l r=>by
   have⟨us,e,h1,h2⟩:=h.tok t l r;exact⟨us,e,(DD o λq=>hb.tok t l r q).trans h1,h2⟩
  KZ:=λk i z=>by rw[World.putObj_size]; exact h.KZ k i z
  mp:=h.IJ (λ_ _ _=>rfl) (λid k m=>DD o λ(q:k=b)=>hb.mp id (q ▸ m))
  GF:=λf d n j c A=>by
   have⟨v,h1,h2,h3⟩:=h.GF f d n j c A;exact⟨v,h1,(Cg (DD o λ(q:f=b)=>hb.I j (q ▸ h1)) j).trans h2,h3.put hb o⟩
  D4:=λf d n=>by
   have⟨h1,h2⟩:=h.D4 f d n;exact⟨h1,(Cg (DD o λ(q:f=b)=>hb.I d.length (q ▸ h1)) d.length).trans h2⟩ }
def Ext.M6 {L:Ba} {g g':AZ} {w w':ϙ} {b:Nat} (h:Ext L g w g' w') (hb:w.heap.size<=b) (u:Ou g' b) (x:∀id k,g.blk id=Y k->k<w.heap.size) (y:∀t l,g.tok t=Y l->l.b<w.heap.size)
  (z:∀id k,g.mp id=Y k->k<w.heap.size) (o:Obj):Ext L g w g' (w'.putObj b o):=
 {h with
  size:=by rw[World.putObj_size]; exact h.size
  cell:=λk i m=>(Cg (DD o λ(e:k=b)=>u.I i (e ▸ h.mono k i m)) i).trans (h.cell k i m)
  shape:=λid k d s=>(EA (DD o λe=>by grind)).trans (h.shape id k d s)
  GK:=λid k d f=>⟨(h.GK id k d f).1,(DD o λe=>by grind).trans (h.GK id k d f).2⟩
  F5:=λt l j f=>⟨(h.F5 t l j f).1,(DD o λe=>by grind).trans (h.F5 t l j f).2.1,(h.F5 t l j f).2.2⟩
  out:=λk d n p r=>⟨(DD o λe=>by omega).trans (h.out k d n p r).1,(h.out k d n p r).2⟩
  F6:=λid k d=>⟨λf=>(DD o λe=>by grind).trans ((h.F6 id k d).1 f),(h.F6 id k d).2⟩ }
structure TN (P:Program) (k:FuncId) (el:TypeId):Prop where
 body:∃fn,P.funcs[k]?=Y fn/\fn.body.isSome=Z/\(fn.name== "runtime.NumGoroutine")=ϴ
 run:∀(sz:Nat),Dy P el=Y sz->∀(l b len cap:Nat) (base:Option Addr) (W:ϙ) (J:Nat->ϙ->Prop) (Jx:ϙ->Prop),len<=1000000000000000000 ->
  W.cell? ⟨b,0,G⟩=Y (.slice base len cap) ->
  (∀j W1,j<len->J (j+1) W1->W1.cell? ⟨b,0,G⟩=Y (.slice base len cap)/\∃bb o x,base=Y ⟨bb,o,G⟩/\(∀q,q<sz->∃v,W1.cell? ⟨bb,o+j*sz+q,G⟩=Y v)/\(Instr.loadAt el (.pointer (Y ⟨bb,o+j*sz,G⟩))).run P W1=.ok x W1 /\
   YieldAt (FW G) 0 P l #[.int .i64 j,x] W1 λe W'=>(e=.returned (.bool Z)/\J j W')\/(e=.returned (.bool ϴ)/\Jx W')) ->
  J len W ->
  CallsIn (FW G) 0 P k #[.func (.yield l) #[] #[],.pointer (Y ⟨b,0,G⟩)] W λe W'=>(∃v,e=.returned v)/\(J 0 W'\/Jx W')
def V5 {P:Program} {w:ϙ} {t:TypeId} {fs:Array Field} {i:TypeInfo} {b o:Nat} (vs:List Value) (e:P.underlying t=Y (.struct fs)) (f:P.info? t=Y i) (k:vs.length=i.size)
  (d:∀j u,vs[j]?=Y u->w.cell? ⟨b,o+j,G⟩=Y u):(Instr.loadAt t (.pointer (Y ⟨b,o,G⟩))).run P w=.ok (.agg vs.toArray) w:=by
 have:=E2 (P:=P) (w:=w) (b:=b) (o:=o) vs d
 simp_all[Instr.loadAt,Instr.sureAddr,loadVar,isAgg,run_underlying,run_sizeOf]
end Go.Tel
