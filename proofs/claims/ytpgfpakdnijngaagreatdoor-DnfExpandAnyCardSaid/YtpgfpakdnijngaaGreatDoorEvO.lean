/-
  A range over a function: blocks that are none of the evaluator's, marks, and what the iterator of slices.Backward promises.
-/
import Derived.Test.YtpgfpakdnijngaaGreatDoorEvH
import Derived.RangeFuncSeq
set_option linter.all false
namespace Go.Tel
theorem jr {a b:Nat} (h:a≠b):Nat.beq a b=false:=by grind[Nat.eq_of_beq_eq_true]
structure Nf (g:AE) (b:Nat):Prop where
 blk:∀id,g.blk id≠some b
 tok:∀t l,g.tok t=some l->l.b≠b
 mp:∀id,g.mp id≠some b
 I:∀o,¬ g.I b o
theorem Nf.ext {L:A3} {g g':AE} {w w':World} {b:Nat} (h:Nf g b) (e:Ext L g w g' w') (hb:b<w.heap.size):Nf g' b/\w'.heap[b]?=w.heap[b]?:=by
 obtain⟨h1,h2⟩:=e.out b hb h.blk h.tok h.mp
 exact⟨⟨λid q=>by obtain⟨E9,q0⟩:=e.GV id b q hb; exact h.blk E9 q0,
  λt l q hq=>by obtain⟨l0,q0,q1⟩:=e.JF t l q (hq ▸ hb); exact h.tok t l0 q0 (q1.trans hq),
  λid q=>by obtain⟨E9,q0⟩:=e.JE id b q hb; exact h.mp E9 q0,
  λo ho=>h.I o (h2 o ho)⟩,h1⟩
def Z0 (D:Nat):Deferred:={ target:=.collected D,args:=#[] }
def Marks (n:Nat) (ds:List Deferred) (g':AE) (w':World) (ds':List Deferred):Prop:=
 ∃Ds:List Nat,ds'=Ds.map Z0++ds/\Ds.Nodup/\∀D∈Ds,n<=D/\w'.heap[D]?=some (.deferred (some []))/\Nf g' D
theorem Marks.refl (n:Nat) (ds:List Deferred) (g:AE) (w:World):Marks n ds g w ds:=⟨[],rfl,.nil,λ_ h=>by cases h⟩
theorem Marks.trans {L:A3} {n m:Nat} {ds ds1 ds2:List Deferred} {g g':AE} {w w':World} (h:Marks n ds g w ds1) (e:Ext L g w g' w') (hm:m=w.heap.size) (hn:n<=m) (k:Marks m ds1 g' w' ds2):Marks n ds g' w' ds2:=by
 subst hm;obtain⟨Ds,h1,h2,h3⟩:=h;obtain⟨Es,k1,k2,k3⟩:=k;refine⟨Es++Ds,by grind,?_,λD hD=>?_⟩
 .grind
 .rcases B9.1 hD with hD|hD
  .grind
  .obtain⟨a,b,c⟩:=h3 D hD
   obtain⟨d1,d2⟩:=c.ext e (HY b)
   grind
theorem Inv.AEm {E:Env} {L:A3} {g:AE} {w:World} {s:AL} (h:Inv E g w s) (o:Obj):Ext L g w g (w.alloc o)/\Inv E g (w.alloc o) s/\Nf g w.heap.size:=by
 have hsz:(G1 w o).heap.size=w.heap.size+1:=by simp[G1]
 have ext:Ext L g w g (G1 w o):={
  os:=rfl,tape:=rfl,output:=rfl,size:=by omega
  mono:=λ_ _ hi=>hi
  cell:=λk o hi=>B4 (BP (h.IG k o hi)) o
  blk:=λ_ _ hb=>.inl hb
  dead:=λ_ hd=>hd
  shape:=λid b hb _=>C8 (BP (h.Dm hb))
  tok:=λ_ l hl=>⟨l,hl,.inl rfl⟩
  FE:=λid b hb _=>⟨hb,BP (h.Dm hb)⟩
  Ez:=λt l hl _=>⟨hl,BP (h.Ff hl),λo ho=>ho⟩
  out:=λk hk _ _ _=>⟨BP hk,λo ho=>ho⟩
  mp:=λ_ _ hb=>hb
  E1:=λ_ b' hb'=>⟨λ_=>BP (h.JG hb'),λo ho=>ho⟩
  JE:=λid' _ hb _=>⟨id',hb⟩
  GV:=λid _ hb _=>⟨id,hb⟩
  C4:=λ_ h=>h
  JF:=λ_ l hl _=>⟨l,hl,rfl⟩ }
 refine⟨ext,?_,⟨λid hb=>by have:=h.Dm hb; omega,λt l hl e=>by have:=h.Ff hl; omega,λid hb=>by have:=h.JG hb; omega,λo ho=>by have:=h.IG _ o ho; omega⟩⟩
 show Inv E g (G1 w o) s
 exact { h with
  blk:=λid b hb=>by
   obtain⟨cs',us,e',h1,h2,h3,h4⟩:=h.blk id b hb;exact⟨cs',us,e',h1,by grind[BP],h3,h4.mono ext⟩
  tok:=λt l hl=>by
   obtain⟨us,e',h1,h2⟩:=h.tok t l hl
   grind[BP]
  IG:=λk o hi=>by rw[hsz]; have:=h.IG k o hi; omega
  mp:=h.HZ (λ_ _ _=>rfl) (λ_ _ hb'=>BP (h.JG hb'))
  Ee:=λgl row hr j c hj=>by
   obtain⟨v,h1,h2,h3⟩:=h.Ee gl row hr j c hj;exact⟨v,h1,by rw[ext.cell _ _ h1]; omega,h3.mono ext.mono ext.cell⟩
  C6:=λgl row hr=>by
   obtain⟨h1,h2⟩:=h.C6 gl row hr;exact⟨h1,by rw[ext.cell _ _ h1]; omega⟩ }
theorem Cf {w:World} {b k:Nat} (o:Obj) (h:k≠b):(w.putObj b o).heap[k]?=w.heap[k]?:=World.putObj_heap_other h
theorem VP.put {g:AE} {w:World} {b:Nat} (h:Nf g b) (o:Obj) {p:PV} {v:Value} (hv:VP g.I w p v):VP g.I (w.putObj b o) p v:=
 hv.mono (λ_ _ h=>h) λk i hi=>B4 (Cf o λ(e:k=b)=>h.I i (e ▸ hi)) i
theorem V.put {g:AE} {w:World} {b:Nat} (h:Nf g b) (o:Obj) {x:AV} {v:Value} (hv:V g w x v):V g (w.putObj b o) x v:=by
 have hc:∀k i,g.I k i->(w.putObj b o).cell? ⟨k,i,none⟩=w.cell? ⟨k,i,none⟩:=λk i hi=>B4 (Cf o λ(e:k=b)=>h.I i (e ▸ hi)) i
 have hs:∀id k,g.blk id=some k->(w.putObj b o).shape? k=w.shape? k:=λid k hk=>C8 (Cf o λ(e:k=b)=>h.blk id (e ▸ hk))
 induction hv with
 | pv hv=>exact .pv (hv.put h o)
 | ptr h=>exact .ptr h
 | KU h=>exact .KU h
 | DX gl off=>grind[DX]
 | Cn off f hf=>exact .Cn off f λj c hj=>⟨(hf j c hj).1,by grind,(hf j c hj).2.2.put h o⟩
 | AA hr=>exact .AA (hr.mono (λ_ _ h=>h) hc)
 | own hr hcap ht hn hf=>exact .own (hr.mono (λ_ _ h=>h) hc) hcap ht hn hf
 | ref hb hcap hsh hn=>grind[ref]
 | Ik h=>exact .Ik h
 | G2=>exact .G2
 | FL h=>exact .FL h
 | bz hb hsh=>grind[bz]
 | qu h=>exact .qu h
 | func hl hm _ _ ih ik=>grind[func]
 | iface _ ih=>exact .iface ih
 | agg hl _ ih=>grind[agg]
 | tuple hl _ ih=>grind[tuple]
theorem Inv.L7 {E:Env} {g:AE} {w:World} {s:AL} {b:Nat} (h:Inv E g w s) (hb:Nf g b) (o:Obj):Inv E g (w.putObj b o) s:=
 {h with
  blk:=λid k hk=>by
   obtain⟨cs,us,e,h1,h2,h3,h4⟩:=h.blk id k hk;exact⟨cs,us,e,h1,(Cf o λ(q:k=b)=>hb.blk id (q ▸ hk)).trans h2,h3,⟨h4.len,λi c v hc hv=>(h4.at_ i c v hc hv).put hb o⟩⟩
  tok:=λt l hl=>by
   obtain⟨us,e,h1,h2⟩:=h.tok t l hl;exact⟨us,e,(Cf o λq=>hb.tok t l hl q).trans h1,h2⟩
  IG:=λk i hi=>by rw[World.putObj_size]; exact h.IG k i hi
  mp:=h.HZ (λ_ _ _=>rfl) (λid k hk=>Cf o λ(q:k=b)=>hb.mp id (q ▸ hk))
  Ee:=λgl row hr j c hj=>by
   obtain⟨v,h1,h2,h3⟩:=h.Ee gl row hr j c hj;exact⟨v,h1,(B4 (Cf o λ(q:gl=b)=>hb.I j (q ▸ h1)) j).trans h2,h3.put hb o⟩
  C6:=λgl row hr=>by
   obtain⟨h1,h2⟩:=h.C6 gl row hr;exact⟨h1,(B4 (Cf o λ(q:gl=b)=>hb.I row.length (q ▸ h1)) row.length).trans h2⟩ }
theorem Ext.L7 {L:A3} {g g':AE} {w w':World} {b:Nat} (h:Ext L g w g' w') (hb:w.heap.size<=b) (ho:Nf g' b) (H8:∀id k,g.blk id=some k->k<w.heap.size) (htok:∀t l,g.tok t=some l->l.b<w.heap.size)
  (hmp:∀id k,g.mp id=some k->k<w.heap.size) (o:Obj):Ext L g w g' (w'.putObj b o):=
 {h with
  size:=by rw[World.putObj_size]; exact h.size
  cell:=λk i hi=>(B4 (Cf o λ(e:k=b)=>ho.I i (e ▸ h.mono k i hi)) i).trans (h.cell k i hi)
  shape:=λid k hk hk'=>(C8 (Cf o λe=>by grind)).trans (h.shape id k hk hk')
  FE:=λid k hk hlt=>⟨(h.FE id k hk hlt).1,(Cf o λe=>by grind).trans (h.FE id k hk hlt).2⟩
  Ez:=λt l hl hlt=>⟨(h.Ez t l hl hlt).1,(Cf o λe=>by grind).trans (h.Ez t l hl hlt).2.1,(h.Ez t l hl hlt).2.2⟩
  out:=λk hk h1 h2 h3=>⟨(Cf o λe=>by omega).trans (h.out k hk h1 h2 h3).1,(h.out k hk h1 h2 h3).2⟩
  E1:=λid k hk=>⟨λhlt=>(Cf o λe=>by grind).trans ((h.E1 id k hk).1 hlt),(h.E1 id k hk).2⟩ }
structure SK (P:Program) (k:FuncId) (el:TypeId):Prop where
 body:∃fn,P.funcs[k]?=some fn/\fn.body.isSome=true/\(fn.name== "runtime.NumGoroutine")=false
 run:∀(sz:Nat),Dk P el=some sz->∀(l b len cap:Nat) (base:Option Addr) (W:World) (J:Nat->World->Prop) (Jx:World->Prop),len<=1000000000000000000 ->
  W.cell? ⟨b,0,none⟩=some (.slice base len cap) ->
  (∀j W1,j<len->J (j+1) W1->W1.cell? ⟨b,0,none⟩=some (.slice base len cap)/\∃bb o x,base=some ⟨bb,o,none⟩/\(∀q,q<sz->∃v,W1.cell? ⟨bb,o+j*sz+q,none⟩=some v)/\(Instr.loadAt el (.pointer (some ⟨bb,o+j*sz,none⟩))).run P W1=.ok x W1 /\
   YieldAt (FW none) 0 P l #[.int .i64 j,x] W1 λe W'=>(e=.returned (.bool true)/\J j W')\/(e=.returned (.bool false)/\Jx W')) ->
  J len W ->
  CallsIn (FW none) 0 P k #[.func (.yield l) #[] #[],.pointer (some ⟨b,0,none⟩)] W λe W'=>(∃v,e=.returned v)/\(J 0 W'\/Jx W')
theorem Uy {P:Program} {w:World} {t:TypeId} {fs:Array Field} {i:TypeInfo} {b o:Nat} (vs:List Value) (hu:P.underlying t=some (.struct fs)) (hi:P.info? t=some i) (hl:vs.length=i.size)
  (hc:∀j u,vs[j]?=some u->w.cell? ⟨b,o+j,none⟩=some u):(Instr.loadAt t (.pointer (some ⟨b,o,none⟩))).run P w=.ok (.agg vs.toArray) w:=by
 have:=EW (P:=P) (w:=w) (b:=b) (o:=o) vs hc
 simp_all[Instr.loadAt,Instr.sureAddr,loadVar,isAgg,run_underlying,run_sizeOf]
end Go.Tel
