/-
  A range over a function: blocks that are none of the evaluator's, marks, and what the iterator of slices.Backward promises.
-/
import Derived.Test.YtpgfpakdnijngaaGreatDoorEvH
import Derived.RangeFuncSeq
set_option linter.all false
namespace Go.Tel
theorem jl {a b:Nat} (h:a≠b):Nat.beq a b=false:=by grind[Nat.eq_of_beq_eq_true]
structure Ni (g:AI) (b:Nat):Prop where
 blk:∀id,g.blk id≠some b
 tok:∀t l,g.tok t=some l->l.b≠b
 mp:∀id,g.mp id≠some b
 I:∀o,¬ g.I b o
theorem Ni.ext {L:A3} {g g':AI} {w w':World} {b:Nat} (h:Ni g b) (e:Ext L g w g' w') (hb:b<w.heap.size):Ni g' b/\w'.heap[b]?=w.heap[b]?:=by
 obtain⟨h1,h2⟩:=e.out b hb h.blk h.tok h.mp
 exact⟨⟨λid q=>by obtain⟨E3,q0⟩:=e.G0 id b q hb; exact h.blk E3 q0,
  λt l q hq=>by obtain⟨l0,q0,q1⟩:=e.Jy t l q (hq ▸ hb); exact h.tok t l0 q0 (q1.trans hq),
  λid q=>by obtain⟨E3,q0⟩:=e.Jw id b q hb; exact h.mp E3 q0,
  λo ho=>h.I o (h2 o ho)⟩,h1⟩
def Zx (D:Nat):Deferred:={ target:=.collected D,args:=#[] }
def Marks (n:Nat) (ds:List Deferred) (g':AI) (w':World) (ds':List Deferred):Prop:=
 ∃Ds:List Nat,ds'=Ds.map Zx++ds/\Ds.Nodup/\∀D∈Ds,n<=D/\w'.heap[D]?=some (.deferred (some []))/\Ni g' D
theorem Marks.refl (n:Nat) (ds:List Deferred) (g:AI) (w:World):Marks n ds g w ds:=⟨[],rfl,.nil,λ_ h=>by cases h⟩
theorem Marks.trans {L:A3} {n m:Nat} {ds ds1 ds2:List Deferred} {g g':AI} {w w':World} (h:Marks n ds g w ds1) (e:Ext L g w g' w') (hm:m=w.heap.size) (hn:n<=m) (k:Marks m ds1 g' w' ds2):Marks n ds g' w' ds2:=by
 subst hm;obtain⟨Ds,h1,h2,h3⟩:=h;obtain⟨Es,k1,k2,k3⟩:=k;refine⟨Es++Ds,by grind,?_,λD hD=>?_⟩
 .grind
 .rcases CM.1 hD with hD|hD
  .grind
  .obtain⟨a,b,c⟩:=h3 D hD
   obtain⟨d1,d2⟩:=c.ext e (HU b)
   grind
theorem Inv.ADk {E:Env} {L:A3} {g:AI} {w:World} {s:AM} (h:Inv E g w s) (o:Obj):Ext L g w g (w.alloc o)/\Inv E g (w.alloc o) s/\Ni g w.heap.size:=by
 have hsz:(Lh w o).heap.size=w.heap.size+1:=by simp[Lh]
 have ext:Ext L g w g (Lh w o):={
  os:=rfl,tape:=rfl,output:=rfl,size:=by omega
  mono:=λ_ _ hi=>hi
  cell:=λk o hi=>B8 (Bp (h.JF k o hi)) o
  blk:=λ_ _ hb=>.inl hb
  dead:=λ_ hd=>hd
  shape:=λid b hb _=>Da (Bp (h.Dt hb))
  tok:=λ_ l hl=>⟨l,hl,.inl rfl⟩
  Fa:=λid b hb _=>⟨hb,Bp (h.Dt hb)⟩
  FQ:=λt l hl _=>⟨hl,Bp (h.Fc hl),λo ho=>ho⟩
  out:=λk hk _ _ _=>⟨Bp hk,λo ho=>ho⟩
  mp:=λ_ _ hb=>hb
  FR:=λ_ b' hb'=>⟨λ_=>Bp (h.K0 hb'),λo ho=>ho⟩
  Jw:=λid' _ hb _=>⟨id',hb⟩
  G0:=λid _ hb _=>⟨id,hb⟩
  C5:=λ_ h=>h
  Jy:=λ_ l hl _=>⟨l,hl,rfl⟩ }
 refine⟨ext,?_,⟨λid hb=>by have:=h.Dt hb; omega,λt l hl e=>by have:=h.Fc hl; omega,λid hb=>by have:=h.K0 hb; omega,λo ho=>by have:=h.JF _ o ho; omega⟩⟩
 show Inv E g (Lh w o) s
 exact { h with
  blk:=λid b hb=>by
   obtain⟨cs',us,e',h1,h2,h3,h4⟩:=h.blk id b hb;exact⟨cs',us,e',h1,by grind[Bp],h3,h4.mono ext⟩
  tok:=λt l hl=>by
   obtain⟨us,e',h1,h2⟩:=h.tok t l hl
   grind[Bp]
  JF:=λk o hi=>by rw[hsz]; have:=h.JF k o hi; omega
  mp:=h.HV (λ_ _ _=>rfl) (λ_ _ hb'=>Bp (h.K0 hb'))
  E9:=λgl row hr j c hj=>by
   obtain⟨v,h1,h2,h3⟩:=h.E9 gl row hr j c hj;exact⟨v,h1,by rw[ext.cell _ _ h1]; omega,h3.mono ext.mono ext.cell⟩
  DK:=λgl row hr=>by
   obtain⟨h1,h2⟩:=h.DK gl row hr;exact⟨h1,by rw[ext.cell _ _ h1]; omega⟩ }
theorem Ck {w:World} {b k:Nat} (o:Obj) (h:k≠b):(w.putObj b o).heap[k]?=w.heap[k]?:=World.putObj_heap_other h
theorem VP.put {g:AI} {w:World} {b:Nat} (h:Ni g b) (o:Obj) {p:PV} {v:Value} (hv:VP g.I w p v):VP g.I (w.putObj b o) p v:=
 hv.mono (λ_ _ h=>h) λk i hi=>B8 (Ck o λ(e:k=b)=>h.I i (e ▸ hi)) i
theorem V.put {g:AI} {w:World} {b:Nat} (h:Ni g b) (o:Obj) {x:AV} {v:Value} (hv:V g w x v):V g (w.putObj b o) x v:=by
 have hc:∀k i,g.I k i->(w.putObj b o).cell? ⟨k,i,none⟩=w.cell? ⟨k,i,none⟩:=λk i hi=>B8 (Ck o λ(e:k=b)=>h.I i (e ▸ hi)) i
 have hs:∀id k,g.blk id=some k->(w.putObj b o).shape? k=w.shape? k:=λid k hk=>Da (Ck o λ(e:k=b)=>h.blk id (e ▸ hk))
 induction hv with
 | pv hv=>exact .pv (hv.put h o)
 | ptr h=>exact .ptr h
 | KM h=>exact .KM h
 | DM gl off=>grind[DM]
 | C8 off f hf=>exact .C8 off f λj c hj=>⟨(hf j c hj).1,by grind,(hf j c hj).2.2.put h o⟩
 | AB hr=>exact .AB (hr.mono (λ_ _ h=>h) hc)
 | own hr hcap ht hn hf=>exact .own (hr.mono (λ_ _ h=>h) hc) hcap ht hn hf
 | ref hb hcap hsh hn=>grind[ref]
 | Il h=>exact .Il h
 | Gz=>exact .Gz
 | G9 h=>exact .G9 h
 | bz hb hsh=>grind[bz]
 | qR h=>exact .qR h
 | func hl hm _ _ ih ik=>grind[func]
 | iface _ ih=>exact .iface ih
 | agg hl _ ih=>grind[agg]
 | tuple hl _ ih=>grind[tuple]
theorem Inv.L3 {E:Env} {g:AI} {w:World} {s:AM} {b:Nat} (h:Inv E g w s) (hb:Ni g b) (o:Obj):Inv E g (w.putObj b o) s:=
 {h with
  blk:=λid k hk=>by
   obtain⟨cs,us,e,h1,h2,h3,h4⟩:=h.blk id k hk;exact⟨cs,us,e,h1,(Ck o λ(q:k=b)=>hb.blk id (q ▸ hk)).trans h2,h3,⟨h4.len,λi c v hc hv=>(h4.at_ i c v hc hv).put hb o⟩⟩
  tok:=λt l hl=>by
   obtain⟨us,e,h1,h2⟩:=h.tok t l hl;exact⟨us,e,(Ck o λq=>hb.tok t l hl q).trans h1,h2⟩
  JF:=λk i hi=>by rw[World.putObj_size]; exact h.JF k i hi
  mp:=h.HV (λ_ _ _=>rfl) (λid k hk=>Ck o λ(q:k=b)=>hb.mp id (q ▸ hk))
  E9:=λgl row hr j c hj=>by
   obtain⟨v,h1,h2,h3⟩:=h.E9 gl row hr j c hj;exact⟨v,h1,(B8 (Ck o λ(q:gl=b)=>hb.I j (q ▸ h1)) j).trans h2,h3.put hb o⟩
  DK:=λgl row hr=>by
   obtain⟨h1,h2⟩:=h.DK gl row hr;exact⟨h1,(B8 (Ck o λ(q:gl=b)=>hb.I row.length (q ▸ h1)) row.length).trans h2⟩ }
theorem Ext.L3 {L:A3} {g g':AI} {w w':World} {b:Nat} (h:Ext L g w g' w') (hb:w.heap.size<=b) (ho:Ni g' b) (H6:∀id k,g.blk id=some k->k<w.heap.size) (htok:∀t l,g.tok t=some l->l.b<w.heap.size)
  (hmp:∀id k,g.mp id=some k->k<w.heap.size) (o:Obj):Ext L g w g' (w'.putObj b o):=
 {h with
  size:=by rw[World.putObj_size]; exact h.size
  cell:=λk i hi=>(B8 (Ck o λ(e:k=b)=>ho.I i (e ▸ h.mono k i hi)) i).trans (h.cell k i hi)
  shape:=λid k hk hk'=>(Da (Ck o λe=>by grind)).trans (h.shape id k hk hk')
  Fa:=λid k hk hlt=>⟨(h.Fa id k hk hlt).1,(Ck o λe=>by grind).trans (h.Fa id k hk hlt).2⟩
  FQ:=λt l hl hlt=>⟨(h.FQ t l hl hlt).1,(Ck o λe=>by grind).trans (h.FQ t l hl hlt).2.1,(h.FQ t l hl hlt).2.2⟩
  out:=λk hk h1 h2 h3=>⟨(Ck o λe=>by omega).trans (h.out k hk h1 h2 h3).1,(h.out k hk h1 h2 h3).2⟩
  FR:=λid k hk=>⟨λhlt=>(Ck o λe=>by grind).trans ((h.FR id k hk).1 hlt),(h.FR id k hk).2⟩ }
structure SD (P:Program) (k:FuncId) (el:TypeId):Prop where
 body:∃fn,P.funcs[k]?=some fn/\fn.body.isSome=true/\(fn.name== "runtime.NumGoroutine")=false
 run:∀(sz:Nat),DZ P el=some sz->∀(l b len cap:Nat) (base:Option Addr) (W:World) (J:Nat->World->Prop) (Jx:World->Prop),len<=1000000000000000000 ->
  W.cell? ⟨b,0,none⟩=some (.slice base len cap) ->
  (∀j W1,j<len->J (j+1) W1->W1.cell? ⟨b,0,none⟩=some (.slice base len cap)/\∃bb o x,base=some ⟨bb,o,none⟩/\(∀q,q<sz->∃v,W1.cell? ⟨bb,o+j*sz+q,none⟩=some v)/\(Instr.loadAt el (.pointer (some ⟨bb,o+j*sz,none⟩))).run P W1=.ok x W1 /\
   YieldAt (FW none) 0 P l #[.int .i64 j,x] W1 λe W'=>(e=.returned (.bool true)/\J j W')\/(e=.returned (.bool false)/\Jx W')) ->
  J len W ->
  CallsIn (FW none) 0 P k #[.func (.yield l) #[] #[],.pointer (some ⟨b,0,none⟩)] W λe W'=>(∃v,e=.returned v)/\(J 0 W'\/Jx W')
theorem Ul {P:Program} {w:World} {t:TypeId} {fs:Array Field} {i:TypeInfo} {b o:Nat} (vs:List Value) (hu:P.underlying t=some (.struct fs)) (hi:P.info? t=some i) (hl:vs.length=i.size)
  (hc:∀j u,vs[j]?=some u->w.cell? ⟨b,o+j,none⟩=some u):(Instr.loadAt t (.pointer (some ⟨b,o,none⟩))).run P w=.ok (.agg vs.toArray) w:=by
 have:=EP (P:=P) (w:=w) (b:=b) (o:=o) vs hc
 simp_all[Instr.loadAt,Instr.sureAddr,loadVar,isAgg,run_underlying,run_sizeOf]
end Go.Tel
