/-
  The relation between abstract and concrete states, and what it keeps.
-/
import Derived.Test.YtpgfpakdnijngaaGreatDoorEvA
set_option linter.all false
namespace Go.Tel
structure QY where
 b:Nat
 cap:Nat
 sz:Nat
 n:Nat
 e:TypeId
structure AP where
 blk:Nat->Option Nat
 dead:Nat->Prop
 DJ:Nat->Prop
 tok:Nat->Option QY
 mp:Nat->Option Nat
 I:Nat->Nat->Prop
 hd:∀id,dead id->blk id=none
inductive VP (I:Nat->Nat->Prop) (w:World):PV->Value->Prop where
 | sc (v:Value):VP I w (.sc v) v
 | list (rows:List (List PV)) (base:Option Addr) (cap b o sz:Nat) (f:Nat->Nat->Value)
   (hcap:rows.length<=cap)
   (hsz:∀row∈rows,row.length=sz)
   (hbase:rows≠[]->sz≠0->base=some ⟨b,o,none⟩)
   (hc:∀i row j c,rows[i]?=some row->row[j]?=some c->I b (o+i*sz+j)/\w.cell? ⟨b,o+i*sz+j,none⟩=some (f i j))
   (hv:∀i row j c,rows[i]?=some row->row[j]?=some c->VP I w c (f i j)) :
   VP I w (.list rows) (.slice base rows.length cap)
structure ES (I:Nat->Nat->Prop) (w:World) (rows:List (List PV)) (base:Option Addr) (b o sz:Nat) (f:Nat->Nat->Value):Prop where
 hsz:∀row∈rows,row.length=sz
 hbase:rows≠[]->sz≠0->base=some ⟨b,o,none⟩
 hc:∀i row j c,rows[i]?=some row->row[j]?=some c->I b (o+i*sz+j)/\w.cell? ⟨b,o+i*sz+j,none⟩=some (f i j)
 hv:∀i row j c,rows[i]?=some row->row[j]?=some c->VP I w c (f i j)
theorem VP.mono {I I':Nat->Nat->Prop} {w w':World} (hI:∀b o,I b o->I' b o) (hw:∀b o,I b o->w'.cell? ⟨b,o,none⟩=w.cell? ⟨b,o,none⟩)
  {p:PV} {v:Value} (h:VP I w p v):VP I' w' p v:=by
 induction h with
 | sc v=>exact .sc v
 | list rows base cap b o sz f hcap hsz hbase hc _ ih=>
  refine .list rows base cap b o sz f hcap hsz hbase (λi row j c hr hj=>?_) ih
  grind
theorem ES.mono {I I':Nat->Nat->Prop} {w w':World} (hI:∀b o,I b o->I' b o) (hw:∀b o,I b o->w'.cell? ⟨b,o,none⟩=w.cell? ⟨b,o,none⟩)
  {rows:List (List PV)} {base:Option Addr} {b o sz:Nat} {f:Nat->Nat->Value} (h:ES I w rows base b o sz f):ES I' w' rows base b o sz f:=by
 refine⟨h.hsz,h.hbase,λi row j c hr hj=>?_,λi row j c hr hj=>(h.hv i row j c hr hj).mono hI hw⟩;obtain⟨h1,h2⟩:=h.hc i row j c hr hj
 grind
theorem ES.nil {I:Nat->Nat->Prop} {w:World} {base:Option Addr} {b o sz:Nat} {f:Nat->Nat->Value}:ES I w [] base b o sz f:=
 ⟨AD,AD,AD,AD⟩
theorem VP.JH {I:Nat->Nat->Prop} {w:World} {rows:List (List PV)} {base:Option Addr} {b o sz cap:Nat} {f:Nat->Nat->Value}
  (h:ES I w rows base b o sz f) (hc:rows.length<=cap):VP I w (.list rows) (.slice base rows.length cap):=
 .list rows base cap b o sz f hc h.hsz h.hbase h.hc h.hv
theorem VP.rows {I:Nat->Nat->Prop} {w:World} {rows:List (List PV)} {v:Value} (h:VP I w (.list rows) v) :
  ∃base cap b o sz f,v=.slice base rows.length cap/\rows.length<=cap/\ES I w rows base b o sz f:=by
 cases h with
 | list _ base cap b o sz f hcap hsz hbase hc hv=>exact⟨base,cap,b,o,sz,f,rfl,hcap,hsz,hbase,hc,hv⟩
theorem VP.Kc {I:Nat->Nat->Prop} {w:World} {u v:Value} (h:VP I w (.sc u) v):v=u:=by cases h; rfl
inductive V (g:AP) (w:World):AV->Value->Prop where
 | pv {p:PV} {v:Value} (h:VP g.I w p v):V g w (.pv p) v
 | ptr {id off b:Nat} (h:g.blk id=some b):V g w (.ptr id off) (.pointer (some ⟨b,off,none⟩))
 | Li {id off:Nat} {a:Option Addr} (h:g.dead id):V g w (.ptr id off) (.pointer a)
 | Dt (gl off:Nat):V g w (.Dt gl off) (.pointer (some ⟨gl,off,none⟩))
 | Cw {row:List PV} {b o:Nat} (off:Nat) (f:Nat->Value)
   (h:∀j c,row[j]?=some c->g.I b (o+j)/\w.cell? ⟨b,o+j,none⟩=some (f j)/\VP g.I w c (f j)) :
   V g w (.Cw row off) (.pointer (some ⟨b,o+off,none⟩))
 | AE {rows:List (List PV)} {base:Option Addr} {b o sz:Nat} {f:Nat->Nat->Value} (h:ES g.I w rows base b o sz f) :
   V g w (.AE rows) (.slice base rows.length rows.length)
 | own {t:Nat} {rows:List (List PV)} {base:Option Addr} {b o sz cap:Nat} {f:Nat->Nat->Value} {l:QY} (h:ES g.I w rows base b o sz f)
   (hcap:rows.length<=cap) (ht:g.tok t=some l) (hn:rows.length<=l.n)
   (hf:rows.length=l.n->base=some ⟨l.b,0,none⟩/\cap=l.cap/\sz=l.sz/\b=l.b/\o=0) :
   V g w (.own t rows) (.slice base rows.length cap)
 | ref {id off len sz b cap n:Nat} {e:TypeId} (h:g.blk id=some b) (hcap:len<=cap) (hs:w.shape? b=some (e,n)) (hn:off+cap*sz<=n) :
   V g w (.ref id off len sz) (.slice (some ⟨b,off,none⟩) len cap)
 | JI {id off len sz n c:Nat} {a:Option Addr} (h:g.dead id):V g w (.ref id off len sz) (.slice a n c)
 | Gh {a:Option Addr}:V g w .Gh (.pointer a)
 | HQ {id b:Nat} (h:g.mp id=some b):V g w (.HQ id) (.map (some b))
 | bz {id b n:Nat} {t:TypeId} (h:g.blk id=some b) (hs:w.shape? b=some (t,n)):V g w (.bz id t n) (.pointer none)
 | ru {id n:Nat} {t:TypeId} (h:g.dead id):V g w (.bz id t n) (.pointer none)
 | func {fn:Fn} {first captured:List AV} {vs us:List Value} (hl:first.length=vs.length) (hm:captured.length=us.length)
   (h:∀(i:Nat) c v,first[i]?=some c->vs[i]?=some v->V g w c v) (k:∀(i:Nat) c v,captured[i]?=some c->us[i]?=some v->V g w c v) :
   V g w (.func fn first captured) (.func fn vs.toArray us.toArray)
 | iface {t:TypeId} {x:AV} {v:Value} (h:V g w x v):V g w (.iface t x) (.iface t v)
 | agg {cs:List AV} {vs:List Value} (hl:cs.length=vs.length) (h:∀(i:Nat) c v,cs[i]?=some c->vs[i]?=some v->V g w c v):V g w (.agg cs) (.agg vs.toArray)
 | tuple {cs:List AV} {vs:List Value} (hl:cs.length=vs.length) (h:∀(i:Nat) c v,cs[i]?=some c->vs[i]?=some v->V g w c v):V g w (.tuple cs) (.tuple vs.toArray)
structure VL (g:AP) (w:World) (cs:List AV) (vs:List Value):Prop where
 len:cs.length=vs.length
 at_:∀(i:Nat) c v,cs[i]?=some c->vs[i]?=some v->V g w c v
theorem VL.nil {g:AP} {w:World}:VL g w [] []:=⟨rfl,AD⟩
theorem VL.cons {g:AP} {w:World} {c:AV} {v:Value} {cs:List AV} {vs:List Value} (h:V g w c v) (k:VL g w cs vs):VL g w (c::cs) (v::vs):=
 ⟨by simp[k.len],λi=>by
  cases i with
  | zero=>grind
  | succ i=>simpa using k.at_ i⟩
theorem VL.head {g:AP} {w:World} {c:AV} {v:Value} {cs:List AV} {vs:List Value} (h:VL g w (c::cs) (v::vs)):V g w c v:=h.at_ 0 c v rfl rfl
theorem VL.tail {g:AP} {w:World} {c:AV} {v:Value} {cs:List AV} {vs:List Value} (h:VL g w (c::cs) (v::vs)):VL g w cs vs:=
 ⟨by have:=h.len; grind,λi c v h1 h2=>h.at_ (i+1) c v AB AB⟩
theorem VL.cases {g:AP} {w:World} {c:AV} {cs:List AV} {vs:List Value} (h:VL g w (c::cs) vs):∃u us,vs=u::us/\V g w c u/\VL g w cs us:=by
 cases vs with
 | nil=>have:=h.len; grind
 | cons u us=>exact⟨u,us,rfl,h.head,h.tail⟩
theorem VL.GN {g:AP} {w:World} {vs:List Value} (h:VL g w [] vs):vs=[]:=by
 have:=h.len; grind
theorem VL.append {g:AP} {w:World} {cs ds:List AV} {vs us:List Value} (h:VL g w cs vs) (k:VL g w ds us):VL g w (cs++ds) (vs++us):=by
 induction cs generalizing vs with
 | nil=>rw[h.GN]; grind
 | cons c cs ih=>
  obtain⟨u,us',rfl,h1,h2⟩:=h.cases
  grind[cons]
theorem VL.take {g:AP} {w:World} {cs:List AV} {vs:List Value} (h:VL g w cs vs) (n:Nat):VL g w (cs.take n) (vs.take n):=
 ⟨by simp[h.len],λi c v h1 h2=>by
  rw[Ou] at h1 h2;split at h1
  .rename_i hi; rw[if_pos hi] at h2; exact h.at_ i c v h1 h2
  grind⟩
theorem VL.drop {g:AP} {w:World} {cs:List AV} {vs:List Value} (h:VL g w cs vs) (n:Nat):VL g w (cs.drop n) (vs.drop n):=
 ⟨by simp[h.len],λi c v h1 h2=>by
  rw[List.getElem?_drop] at h1 h2;exact h.at_ _ c v h1 h2⟩
theorem VL.get {g:AP} {w:World} {cs:List AV} {vs:List Value} (h:VL g w cs vs) {i:Nat} {c:AV} (hc:cs[i]?=some c):∃v,vs[i]?=some v/\V g w c v:=by
 have hi:i<vs.length:=by
  rw[<-h.len]
  grind
 exact⟨vs[i],AD,h.at_ i c _ hc AD⟩
theorem VL.set {g:AP} {w:World} {cs:List AV} {vs:List Value} (h:VL g w cs vs) {c:AV} {v:Value} (i:Nat) (hv:V g w c v):VL g w (cs.set i c) (vs.set i v):=by
 refine⟨by simp[h.len],λj c' v' h1 h2=>?_⟩;rw[List.getElem?_set] at h1 h2;split at h1
 .grind
 .rename_i hij
  rw[if_neg hij] at h2;exact h.at_ j c' v' h1 h2
structure Ext (L:BL) (g:AP) (w:World) (g':AP) (w':World):Prop where
 os:w'.os=w.os
 tape:w'.tape=w.tape
 output:w'.output=w.output
 size:w.heap.size<=w'.heap.size
 mono:∀b o,g.I b o->g'.I b o
 cell:∀b o,g.I b o->w'.cell? ⟨b,o,none⟩=w.cell? ⟨b,o,none⟩
 blk:∀id b,g.blk id=some b->g'.blk id=some b\/g'.dead id
 dead:∀id,g.dead id->g'.dead id
 shape:∀id b,g.blk id=some b->g'.blk id=some b->w'.shape? b=w.shape? b
 tok:∀t l,g.tok t=some l->∃l',g'.tok t=some l'/\(l'=l\/l.n<l'.n)
 Ga:∀id b,g.blk id=some b->id<L.ro->g'.blk id=some b/\w'.heap[b]?=w.heap[b]?
 F0:∀t l,g.tok t=some l->t<L.rt->g'.tok t=some l/\w'.heap[l.b]?=w.heap[l.b]?/\∀o,g'.I l.b o->g.I l.b o
 out:∀b,b<w.heap.size->(∀id,g.blk id≠some b)->(∀t l,g.tok t=some l->l.b≠b)->(∀id,g.mp id≠some b)->w'.heap[b]?=w.heap[b]?/\∀o,g'.I b o->g.I b o
 mp:∀id b,g.mp id=some b->g'.mp id=some b
 F1:∀id b,g.mp id=some b->(id<L.ro->w'.heap[b]?=w.heap[b]?)/\∀o,g'.I b o->g.I b o
 K2:∀id b,g'.mp id=some b->b<w.heap.size->∃FO,g.mp FO=some b
 HR:∀id b,g'.blk id=some b->b<w.heap.size->∃FO,g.blk FO=some b
 K3:∀t l',g'.tok t=some l'->l'.b<w.heap.size->∃l,g.tok t=some l/\l.b=l'.b
 DJ:∀id,g.DJ id->g'.DJ id
theorem Ext.refl (L:BL) (g:AP) (w:World):Ext L g w g w:=
 ⟨rfl,rfl,rfl,AY _,λ_ _ h=>h,λ_ _ _=>rfl,λ_ _ h=>.inl h,λ_ h=>h,λ_ _ _ _=>rfl,λ_ l h=>⟨l,h,.inl rfl⟩,λ_ _ h _=>⟨h,rfl⟩,
  λ_ _ h _=>⟨h,rfl,λ_ h=>h⟩,λ_ _ _ _ _=>⟨rfl,λ_ h=>h⟩,λ_ _ h=>h,λ_ _ _=>⟨λ_=>rfl,λ_ h=>h⟩,λid _ h _=>⟨id,h⟩,λid _ h _=>⟨id,h⟩,λ_ l h _=>⟨l,h,rfl⟩,λ_ h=>h⟩
theorem ED {w w':World} {b:Nat} (h:w'.heap[b]?=w.heap[b]?):w'.shape? b=w.shape? b:=by grind[World.shape?]
theorem Ext.trans {L:BL} {g g' g'':AP} {w w' w'':World} (h:Ext L g w g' w') (k:Ext L g' w' g'' w''):Ext L g w g'' w'' where
 os:=k.os.trans h.os
 tape:=k.tape.trans h.tape
 output:=k.output.trans h.output
 size:=BK h.size k.size
 mono:=λb o hi=>k.mono b o (h.mono b o hi)
 cell:=λb o hi=>(k.cell b o (h.mono b o hi)).trans (h.cell b o hi)
 blk:=λid b hb=>by
  rcases h.blk id b hb with x|x
  .exact k.blk id b x
  .exact .inr (k.dead id x)
 dead:=λid hd=>k.dead id (h.dead id hd)
 shape:=λid b hb AWv=>by
  rcases h.blk id b hb with x|x
  .exact(k.shape id b x AWv).trans (h.shape id b hb x)
  .have:=g''.hd id (k.dead id x); grind
 tok:=λt l hl=>by
  obtain⟨l',h1,h2⟩:=h.tok t l hl;obtain⟨l'',k1,k2⟩:=k.tok t l' h1
  grind
 Ga:=λid b hb hlt=>by
  obtain⟨h1,h2⟩:=h.Ga id b hb hlt;obtain⟨k1,k2⟩:=k.Ga id b h1 hlt
  grind
 F0:=λt l hl hlt=>by
  obtain⟨a1,a2,a3⟩:=h.F0 t l hl hlt;obtain⟨b1,b2,b3⟩:=k.F0 t l a1 hlt
  grind
 out:=λb hb h1 h2 h3=>by
  obtain⟨a1,a2⟩:=h.out b hb h1 h2 h3
  obtain⟨b1,b2⟩:=k.out b (GI hb h.size) (λid e=>by obtain⟨FO,e0⟩:=h.HR id b e hb; grind)
   (λt l' hl e=>by obtain⟨l,fN,Sr⟩:=h.K3 t l' hl (e ▸ hb); grind) (λid e=>by obtain⟨FO,e0⟩:=h.K2 id b e hb; grind)
  grind
 mp:=λid b hb=>k.mp id b (h.mp id b hb)
 F1:=λid b hb=>by
  obtain⟨a1,a2⟩:=h.F1 id b hb;obtain⟨b1,b2⟩:=k.F1 id b (h.mp id b hb)
  grind
 K2:=λid b hb hlt=>by
  obtain⟨id1,h1⟩:=k.K2 id b hb (GI hlt h.size);exact h.K2 id1 b h1 hlt
 HR:=λid b hb hlt=>by
  obtain⟨id1,h1⟩:=k.HR id b hb (GI hlt h.size);exact h.HR id1 b h1 hlt
 K3:=λt l'' hl hlt=>by
  obtain⟨l',k1,k2⟩:=k.K3 t l'' hl (GI hlt h.size);obtain⟨l,h1,h2⟩:=h.K3 t l' k1 (k2 ▸ hlt)
  grind
 DJ:=λid hp=>k.DJ id (h.DJ id hp)
theorem V.mono {L:BL} {g g':AP} {w w':World} (e:Ext L g w g' w') {a:AV} {v:Value} (h:V g w a v):V g' w' a v:=by
 induction h with
 | pv h=>exact .pv (h.mono e.mono e.cell)
 | ptr h=>
  rcases e.blk _ _ h with k|k
  all_goals grind[ptr,Li]
 | Li h=>exact .Li (e.dead _ h)
 | Dt gl off=>grind[Dt]
 | Cw off f h=>
  refine .Cw off f (λj c hj=>?_);obtain⟨h1,h2,h3⟩:=h j c hj;exact⟨e.mono _ _ h1,by rw[e.cell _ _ h1]; omega,h3.mono e.mono e.cell⟩
 | AE h=>exact .AE (h.mono e.mono e.cell)
 | own h hcap ht hn hf=>
  obtain⟨l',h1,h2⟩:=e.tok _ _ ht;refine .own (h.mono e.mono e.cell) hcap h1 ?_ ?_
  all_goals grind
 | ref h hcap hs hn=>
  rcases e.blk _ _ h with k|k
  .exact .ref k hcap ((e.shape _ _ h k).trans hs) hn
  grind[JI]
 | JI h=>exact .JI (e.dead _ h)
 | Gh=>exact .Gh
 | HQ h=>exact .HQ (e.mp _ _ h)
 | bz h hs=>
  rcases e.blk _ _ h with k|k
  .exact .bz k ((e.shape _ _ h k).trans hs)
  .exact .ru k
 | ru h=>exact .ru (e.dead _ h)
 | func hl hm _ _ ih ik=>grind[func]
 | iface _ ih=>exact .iface ih
 | agg hl _ ih=>grind[agg]
 | tuple hl _ ih=>grind[tuple]
theorem VL.mono {L:BL} {g g':AP} {w w':World} (e:Ext L g w g' w') {cs:List AV} {vs:List Value} (h:VL g w cs vs):VL g' w' cs vs:=
 ⟨h.len,λi c v h1 h2=>(h.at_ i c v h1 h2).mono e⟩
structure Inv (E:Env) (g:AP) (w:World) (s:AQ):Prop where
 Ex:∀id b,g.blk id=some b->id<s.bs.length
 Dm:∀id,g.dead id->id<s.bs.length
 blk:∀id b,g.blk id=some b->∃cs vs e,s.bs[id]?=some cs/\w.heap[b]?=some (.cells ⟨vs⟩ e (0,0))/\cs.length<=vs.length/\VL g w cs (vs.take cs.length)
 GO:∀id b o,g.blk id=some b->¬ g.I b o
 Dn:∀id,g.dead id->s.bs[id]?=some []
 Dw:∀id,g.DJ id->id<s.bs.length/\g.blk id=none/\¬ g.dead id
 Ec:∀id,id<s.bs.length->(∃b,g.blk id=some b)\/g.dead id\/g.DJ id\/∃b,g.mp id=some b
 mp:∀id b,g.mp id=some b->∃es clock,s.bs[id]?=some [.O9 es clock]/\w.heap[b]?=some (.map (List.toArray es) clock)
 MM:∀id b,g.mp id=some b->g.blk id=none/\¬ g.dead id/\¬ g.DJ id
 Ho:∀id id' b,g.mp id=some b->g.mp id'=some b->id=id'
 Gx:∀t n k,s.ts[t]?=some (n,k)->∃l,g.tok t=some l/\l.n=n/\l.e=k
 Gy:∀t l,g.tok t=some l->s.ts[t]?=some (l.n,l.e)
 tok:∀t l,g.tok t=some l->∃vs fz,w.heap[l.b]?=some (.cells ⟨vs⟩ l.e fz)/\vs.length=l.cap*l.sz/\l.n<=l.cap/\l.sz≠0/\fz.2<=l.n*l.sz/\D2 E.P l.e=some l.sz
 HG:∀t l o,g.tok t=some l->l.n*l.sz<=o->¬ g.I l.b o
 FF:∀id id' b,g.blk id=some b->g.blk id'=some b->id=id'
 Ge:∀t t' l l',g.tok t=some l->g.tok t'=some l'->l.b=l'.b->t=t'
 DL:∀id b t l,g.blk id=some b->g.tok t=some l->b≠l.b
 Kf:∀b o,g.I b o->b<w.heap.size
 Fv:∀gl row,E.G gl=some row->∀j c,row[j]?=some c->∃v,g.I gl j/\w.cell? ⟨gl,j,none⟩=some v/\VP g.I w c v
 Dc:∀gl row,E.G gl=some row->g.I gl row.length/\w.cell? ⟨gl,row.length,none⟩=none
theorem Inv.FI {E:Env} {g:AP} {w:World} {s:AQ} (h:Inv E g w s) {id b:Nat} (hb:g.blk id=some b):b<w.heap.size:=by
 obtain⟨cs,vs,e,_,h2,_,_⟩:=h.blk id b hb
 grind
theorem TJ {w:World} {b:Nat} {o:Obj} (h:w.heap[b]?=some o):b<w.heap.size:=AB
theorem Inv.PD {E:Env} {g:AP} {w:World} {s:AQ} (h:Inv E g w s) {id b:Nat} (hb:g.mp id=some b):b<w.heap.size:=by
 obtain⟨_,_,_,h2⟩:=h.mp id b hb
 grind
theorem Inv.mpN {E:Env} {g:AP} {w:World} {s:AQ} (h:Inv E g w s) {id b:Nat} (hb:g.mp id=some b):id<s.bs.length:=by
 obtain⟨_,_,h1,_⟩:=h.mp id b hb
 grind
theorem Inv.Iv {E:Env} {g:AP} {w w':World} {s s':AQ} (h:Inv E g w s) (hs:∀id b,g.mp id=some b->s'.bs[id]?=s.bs[id]?) (hw:∀id b,g.mp id=some b->w'.heap[b]?=w.heap[b]?) :
  ∀id b,g.mp id=some b->∃es clock,s'.bs[id]?=some [.O9 es clock]/\w'.heap[b]?=some (.map (List.toArray es) clock):=λid b hb=>by
 obtain⟨es,c,h1,h2⟩:=h.mp id b hb
 grind
theorem Inv.sq {E:Env} {g:AP} {w:World} {s:AQ} (h:Inv E g w s) {id id' b b':Nat} (hb:g.blk id=some b) (hb':g.mp id'=some b'):id≠id':=λe=>by
 have:=(h.MM id' b' hb').1
 grind
theorem Inv.mpB {E:Env} {g:AP} {w:World} {s:AQ} (h:Inv E g w s) {id id' b:Nat} (hb:g.mp id=some b):g.blk id'≠some b:=λe=>by
 obtain⟨_,_,_,h2⟩:=h.mp id b hb;obtain⟨_,_,_,_,h3,_⟩:=h.blk id' b e
 grind
theorem Inv.mpT {E:Env} {g:AP} {w:World} {s:AQ} (h:Inv E g w s) {id b:Nat} {t:Nat} {l:QY} (hb:g.mp id=some b) (hl:g.tok t=some l):b≠l.b:=λe=>by
 obtain⟨_,_,_,h2⟩:=h.mp id b hb;obtain⟨_,_,h3,_⟩:=h.tok t l hl
 grind
theorem Inv.HU {E:Env} {g:AP} {w:World} {s:AQ} (h:Inv E g w s) {t:Nat} {l:QY} (hl:g.tok t=some l):l.b<w.heap.size:=by
 obtain⟨vs,e,h2,_⟩:=h.tok t l hl
 grind
theorem Wi (P:Program) {α:Type} (s:Sem α) (a:α) (h:quick P s=some a) (w:World):s.run P w=.ok a w:=by
 induction s with
 | pure x=>simp_all[quick]
 | program k ih=>grind[quick,Sem.run]
 | mark m k ih=>grind[quick,Sem.run]
 | load=>grind[quick]
 | store=>grind[quick]
 | new=>grind[quick]
 | shape=>grind[quick]
 | freeze=>grind[quick]
 | frozen=>grind[quick]
 | getObj=>grind[quick]
 | setObj=>grind[quick]
 | choose=>grind[quick]
 | sys=>grind[quick]
 | halt=>grind[quick]
theorem V.Kc {g:AP} {w:World} (v:Value):V g w (Kc v) v:=.pv (.sc v)
theorem V.DC {g:AP} {w:World} {u v:Value} (h:V g w (.pv (.sc u)) v):v=u:=by cases h with|pv h=>exact h.Kc
theorem VL.AAQ {g:AP} {w:World} (vs:List Value):VL g w (vs.map Tel.Kc) vs:=by
 induction vs with
 | nil=>exact .nil
 | cons v vs ih=>exact .cons (.Kc v) ih
theorem VL.map {g:AP} {w:World} {f:Value->AV} (hf:∀v,V g w (f v) v) (vs:List Value):VL g w (vs.map f) vs:=by
 induction vs with
 | nil=>exact .nil
 | cons v vs ih=>grind[cons]
theorem V.Nz {g:AP} {w:World} (v:Value):V g w (Nz v) v:=by
 unfold Tel.Nz;split
 .rename_i cs; have h:=VL.AAQ (g:=g) (w:=w) cs.toList; exact .agg h.len h.at_
 .rename_i vs; have h:=VL.AAQ (g:=g) (w:=w) vs.toList; exact .tuple h.len h.at_
 .exact .Kc _
theorem V.Hw {g:AP} {w:World} (v:Value):V g w (Hw v) v:=by
 unfold Tel.Hw;split
 .exact .AE (b:=0) (o:=0) (sz:=0) (f:=λ_ _=>undef) .nil
 .exact .Kc _
theorem V.ofConst {g:AP} {w:World} (v:Value):V g w (ofConst v) v:=by
 unfold Tel.ofConst;split
 .rename_i cs; have h:=VL.map (g:=g) (w:=w) (V.Hw) cs.toList; exact .agg h.len h.at_
 .rename_i vs; have h:=VL.AAQ (g:=g) (w:=w) vs.toList; exact .tuple h.len h.at_
 grind[V.Hw]
theorem Av {g:AP} {w:World} {U:Nat->AV} {a:Act} (hU:∀t,V g w (U t) (a.tmps.getD t undef)) (x:Operand):V g w (Am U x) (a.eval x):=by
 cases x with
 | tmp t=>exact hU t
 | const v=>exact V.ofConst v
 | global gl=>exact .Dt gl 0
 | func f=>exact .func (vs:=[]) (us:=[]) rfl rfl AD AD
theorem V.su {g:AP} {w:World} {cs:List AV} {vs:List Value} (h:VL g w cs vs):V g w (.agg cs) (.agg ⟨vs⟩):=.agg h.len h.at_
theorem V.tuple' {g:AP} {w:World} {cs:List AV} {vs:List Value} (h:VL g w cs vs):V g w (.tuple cs) (.tuple ⟨vs⟩):=.tuple h.len h.at_
theorem V.Yg {g:AP} {w:World} {cs:List AV} {v:Value} (h:V g w (.agg cs) v):∃vs,v=.agg ⟨vs⟩/\VL g w cs vs:=by
 cases h with|agg hl h=>exact⟨_,rfl,hl,h⟩
theorem V.QZ {g:AP} {w:World} {cs:List AV} {v:Value} (h:V g w (.tuple cs) v):∃vs,v=.tuple ⟨vs⟩/\VL g w cs vs:=by
 cases h with|tuple hl h=>exact⟨_,rfl,hl,h⟩
theorem V.undef {g:AP} {w:World}:V g w (.tuple []) undef:=V.tuple' .nil
theorem Jl {g:AP} {w:World} {c:AV} {v:Value} (h:V g w c v) (hc:BD c=true):v.oneCell'=true:=by
 cases h with
 | pv h=>
  cases h with
  | sc v=>cases v <;> assumption
  | list=>rfl
 | agg=>assumption
 | tuple=>assumption
 | ptr|Li|Dt|Cw|AE|own|ref|JI|Gh|HQ|func|iface|bz|ru=>rfl
theorem n9 {v:Value} (h:v.oneCell'=true):v.cells=#[v]:=by cases v <;> simp_all [Value.cells,Value.oneCell']
theorem Ej {g:AP} {w:World} {x:AV} {v:Value} (h:V g w x v) (hc:(cellsOf x).all BD=true):VL g w (cellsOf x) v.cells.toList:=by
 cases x with
 | agg cs=>
  obtain⟨vs,rfl,hl⟩:=h.Yg;exact hl
 | tuple vs=>grind[cellsOf,BD]
 | _=>
  have h1:=Jl h (by grind[cellsOf]);rw[n9 h1];exact .cons h .nil
theorem DQ (b o n:Nat):Addr.add ⟨b,o,none⟩ n=⟨b,o+n,none⟩:=by grind[Addr.add]
theorem PE {P:Program} {w:World} {b o:Nat} (us:List Value):∀(i:Nat) (acc:Array Value),
  (∀(j:Nat) u,us[j]?=some u->w.cell? ⟨b,o+(i+j),none⟩=some u) ->
  (loadCellsFrom ⟨b,o,none⟩ i us.length acc).run P w=.ok (acc++us.toArray) w:=by
 induction us with
 | nil=>simp[*,loadCellsFrom]
 | cons u us ih=>
  intro i acc h;have h0:=h 0 u rfl;simp only[Gr] at h0;simp only[Bt,loadCellsFrom,Sem.run_bind,run_load,DQ,h0,Result.andThen_ok];rw[ih (i+1) (acc.push u) (λj u' hj=>by have:=h (j+1) u' AB; grind)];simp
theorem Ek {P:Program} {w:World} {b o:Nat} (us:List Value) (h:∀(j:Nat) u,us[j]?=some u->w.cell? ⟨b,o+j,none⟩=some u) :
  (loadCells ⟨b,o,none⟩ us.length).run P w=.ok us.toArray w:=by grind[PE,loadCells]
theorem run_underlying {P:Program} {w:World} {t:TypeId} {d:TypeDesc} (h:P.underlying t=some d):(underlying t).run P w=.ok d w:=by
 simp[underlying,h]
theorem run_typeInfo {P:Program} {w:World} {t:TypeId} {i:TypeInfo} (h:P.info? t=some i):(typeInfo t).run P w=.ok i w:=by
 simp[typeInfo,h]
theorem run_sizeOf {P:Program} {w:World} {t:TypeId} {i:TypeInfo} (h:P.info? t=some i):(sizeOf t).run P w=.ok i.size w:=by
 simp[sizeOf,run_typeInfo h]
theorem FL {P:Program} {t:TypeId} {k:Nat} (h:D2 P t=some k):∃i,P.info? t=some i/\i.size=k:=by grind[D2]
theorem Yh {P:Program} {g:AP} {w:World} {cs:List AV} {us:List Value} {b o off:Nat} {t:TypeId} {v:AV}
  (hl:VL g w cs us) (hcell:∀(j:Nat) u,us[j]?=some u->w.cell? ⟨b,o+j,none⟩=some u) (hp:partOf P t cs off=some v) :
  ∃v',(Instr.loadAt t (.pointer (some ⟨b,o+off,none⟩))).run P w=.ok v' w/\V g w v v':=by
 unfold partOf at hp;split at hp
 .rename_i d i hd hi
  have one:cs[off]?=some v->∃u,w.cell? ⟨b,o+off,none⟩=some u/\V g w v u:=by
   intro hv;obtain⟨u,h1,h2⟩:=hl.get hv
   grind
  have many:(if off+i.size<=cs.length/\i.size≠0 then some (AV.agg ((cs.drop off).take i.size)) else none)=some v ->
    ∃us',(loadCells ⟨b,o+off,none⟩ i.size).run P w=.ok (List.toArray us') w/\V g w v (.agg ⟨us'⟩):=by
   intro hv;split at hv
   .rename_i hle
    have hle:=hle.1;simp at hv; subst hv;have hk:=(hl.drop off).take i.size;refine⟨_,?_,V.su hk⟩
    have hlen:((us.drop off).take i.size).length=i.size:=by
     have:=hl.len
     grind
    grind[Ek]
   grind
  cases d with
  | struct fs=>
   obtain⟨us',h1,h2⟩:=many hp;simp[*,Instr.loadAt,Instr.sureAddr,loadVar,isAgg,run_underlying,run_sizeOf]
  | array n e=>
   obtain⟨us',h1,h2⟩:=many hp;simp[*,Instr.loadAt,Instr.sureAddr,loadVar,isAgg,run_underlying,run_sizeOf]
  | _=>
   obtain⟨u,h1,h2⟩:=one hp;simp[*,Instr.loadAt,Instr.sureAddr,loadVar,isAgg,run_underlying]
 grind
theorem Bu {w:World} {b o:Nat} {vs:List Value} {e:TypeId} {fz:Nat×Nat} (h:w.heap[b]?=some (.cells ⟨vs⟩ e fz)):w.cell? ⟨b,o,none⟩=vs[o]?:=by grind[World.cell?]
theorem kJ {g:AP} {w:World} {row:List PV} {f:Nat->Value} (h:∀(j:Nat) c,row[j]?=some c->VP g.I w c (f j)) :
  VL g w (row.map .pv) ((List.range row.length).map f):=by
 refine⟨AD,λi c v h1 h2=>?_⟩;rw[FJ] at h1;cases hr:row[i]? with
 | none=>grind
 | some p=>
  simp[hr] at h1; subst h1;have hi:i<row.length:=AB;simp[FJ,Ov hi] at h2;subst h2;exact .pv (h i p hr)
theorem fX {P:Program} {t:TypeId} {off:Nat} (v:AV):partOf P t [] off≠some v:=by grind[partOf]
theorem Ra {E:Env} {g:AP} {w:World} {s:AQ} (hI:Inv E g w s) {t:TypeId} {x v:AV} {xv:Value} (hx:V g w x xv) (h:TE E s t x=some v) :
  ∃v',(Instr.loadAt t xv).run E.P w=.ok v' w/\V g w v v':=by
 unfold TE at h;split at h
 .rename_i id off
  split at h
  .rename_i cs hcs
   cases hx with
   | @ptr _ _ b hb=>
    obtain⟨cs',vs,e,h1,h2,hle,h3⟩:=hI.blk id b hb;simp only[RX] at hcs;rw[hcs] at h1; simp at h1; subst h1;have:=Yh (P:=E.P) (b:=b) (o:=0) h3 (λj u hj=>by grind[Bu]) h
    grind
   | Li hd=>
    have:=hI.Dn id hd
    grind[RX,fX]
  grind
 .rename_i gl off
  split at h
  .rename_i row hrow
   cases hx with
   | Dt=>
    have hg:=hI.Fv gl row hrow
    have hex:∀j,∃v,∀c,row[j]?=some c->g.I gl j/\w.cell? ⟨gl,j,none⟩=some v/\VP g.I w c v:=by
     intro j;cases hj:row[j]? with
     | none=>simp
     | some c=>
      simp[*]
    have hf:=λj=>Classical.choose_spec (hex j)
    have hl:=kJ (g:=g) (w:=w) (row:=row) (f:=λj=>Classical.choose (hex j)) (λj c hc=>(hf j c hc).2.2)
    have:=Yh (P:=E.P) (b:=gl) (o:=0) hl (λj u hj=>by
     have hi:j<row.length:=AB;simp[FJ,Ov hi] at hj;subst hj;have:=(hf j row[j] AD).2.1
     grind) h
    grind
  grind
 .rename_i row off
  cases hx with
  | @Cw _ b o _ f hr=>
   have hl:=kJ (g:=g) (w:=w) (row:=row) (f:=f) (λj c hc=>(hr j c hc).2.2)
   exact Yh (P:=E.P) (b:=b) (o:=o) hl (λj u hj=>by
    have hi:j<row.length:=AB
    simp_all) h
 grind
theorem Yi {P:Program} {g:AP} {w:World} {cs:List AV} {us:List Value} {off:Nat} {t:TypeId} {v:AV}
  (hl:VL g w cs us) (hp:partOf P t cs off=some v):∃v',(part t ⟨us⟩ off).run P w=.ok v' w/\V g w v v':=by
 unfold partOf at hp;split at hp
 .rename_i d i hd hi
  have one:cs[off]?=some v->∃u,us[off]?=some u/\V g w v u:=λhv=>hl.get hv
  have many:(if off+i.size<=cs.length/\i.size≠0 then some (AV.agg ((cs.drop off).take i.size)) else none)=some v->V g w v (.agg ((⟨us⟩:Array Value).extract off (off+i.size))):=by
   intro hv;split at hv
   .simp at hv; subst hv
    have hk:=(hl.drop off).take i.size
    grind[V.su]
   grind
  cases d with
  | struct fs=>simp_all[part,isAgg,run_underlying,run_sizeOf]
  | array n e=>simp_all[part,isAgg,run_underlying,run_sizeOf]
  | _=>
   obtain⟨u,h1,h2⟩:=one hp;simp[*,part,isAgg,run_underlying]
 grind
def CJ (vs:List Value) (k:Nat):List Value->List Value
 | []=>vs
 | u::us=>CJ (vs.set k u) (k+1) us
theorem Bn (us:List Value):∀(vs:List Value) (k:Nat),(CJ vs k us).length=vs.length:=by
 induction us with
 | nil=>intro vs k; rfl
 | cons u us ih=>grind[CJ]
theorem FY (us:List AV):∀(vs:List AV) (k:Nat),(setCells vs k us).length=vs.length:=by
 induction us with
 | nil=>intro vs k; rfl
 | cons u us ih=>grind[setCells]
theorem VL.setCells {g:AP} {w:World} {us:List AV}:∀{cs:List AV} {vs ws:List Value} (k:Nat),VL g w cs vs->VL g w us ws->VL g w (setCells cs k us) (CJ vs k ws):=by
 induction us with
 | nil=>intro cs vs ws k h1 h2; rw[h2.GN]; exact h1
 | cons u us ih=>
  intro cs vs ws k h1 h2;obtain⟨x,xs,rfl,h3,h4⟩:=h2.cases;exact ih (k+1) (h1.set k h3) h4
def BO (w:World) (b:Nat) (vs:List Value) (e:TypeId) (fz:Nat×Nat:=(0,0)):World:={ w with heap:=w.heap.setIfInBounds b (.cells ⟨vs⟩ e fz) }
theorem Bh (w:World) (b:Nat) (vs:List Value) (e:TypeId) (k:Nat) {fz:Nat×Nat} :
  (BO w b vs e fz).heap[k]?=if b=k then(if k<w.heap.size then some (.cells ⟨vs⟩ e fz) else none) else w.heap[k]?:=by grind[BO]
theorem Cv {α:Type} {l:Array α} {i:Nat} {x:α} (h:l[i]?=some x):i<l.size:=AB
theorem DD {α:Type} {l:List α} {i:Nat} {x:α} (h:l[i]?=some x):i<l.length:=AB
theorem JX {w w':World} (h1:w.heap=w'.heap) (h2:w.tape=w'.tape) (h3:w.drawn=w'.drawn) (h4:w.os=w'.os) (h5:w.output=w'.output):w=w':=by
 cases w; simp_all
theorem Lj {w:World} {b:Nat} {vs:List Value} {e:TypeId} {fz:Nat×Nat} (h:w.heap[b]?=some (.cells ⟨vs⟩ e fz)):BO w b vs e fz=w:=by
 refine JX ?_ rfl rfl rfl rfl;apply Sa
 grind[Bh]
theorem aW {w:World} {b o:Nat} {vs:List Value} {e:TypeId} {v:Value} {fz:Nat×Nat} (h:w.heap[b]?=some (.cells ⟨vs⟩ e fz)) :
  w.setCell ⟨b,o,none⟩ v=BO w b (vs.set o v) e fz:=by
 refine JX ?_ rfl rfl rfl rfl;apply Sa
 grind[Bh,World.setCell]
theorem EX {w:World} {b:Nat} {vs us:List Value} {e:TypeId} {fz:Nat×Nat}:BO (BO w b vs e fz) b us e fz=BO w b us e fz:=by
 simp[BO]
theorem FZ {P:Program} {b o:Nat} {e:TypeId} {fz:Nat×Nat} (hfz:fz.2<=o) (us:List Value):∀(i:Nat) (w:World) (vs:List Value),(∀u∈us,u.oneCell'=true) ->
  w.heap[b]?=some (.cells ⟨vs⟩ e fz)->o+i+us.length<=vs.length ->
  (storeCells ⟨b,o,none⟩ us i).run P w=.ok () (BO w b (CJ vs (o+i) us) e fz):=by
 induction us with
 | nil=>simp_all[storeCells,CJ,Lj]
 | cons u us ih=>
  intro i w vs hu h hle;simp only[Bt] at hle;have hc:w.cell? ⟨b,o+i,none⟩=some vs[o+i]:=by rw[Bu h]; simp
  have hf:w.frozen? ⟨b,o+i,none⟩=false:=by grind[World.frozen?]
  simp only[storeCells,Sem.run_bind,DQ];rw[run_store _ _ _ _ _ (hu u AD)];simp only[hc,hf,Result.andThen_ok,DN,I8];rw[aW h];have h':(BO w b (vs.set (o+i) u) e fz).heap[b]?=some (.cells ⟨vs.set (o+i) u⟩ e fz):=by grind[Bh]
  rw[ih (i+1) _ (vs.set (o+i) u) (λx hx=>hu x AB) h' AB,EX];rfl
theorem F2 {P:Program} {b o:Nat} {e:TypeId} (us:List Value) (i:Nat) (w:World) (vs:List Value) (hu:∀u∈us,u.oneCell'=true)
  (h:w.heap[b]?=some (.cells ⟨vs⟩ e (0,0))) (hle:o+i+us.length<=vs.length) :
  (storeCells ⟨b,o,none⟩ us i).run P w=.ok () (BO w b (CJ vs (o+i) us) e):=FZ (AN o) us i w vs hu h hle
theorem Ck {w w':World} {b:Nat} (h:w'.heap[b]?=w.heap[b]?) (o:Nat):w'.cell? ⟨b,o,none⟩=w.cell? ⟨b,o,none⟩:=by grind[World.cell?]
theorem Bv {w:World} {b:Nat} {vs:List Value} {e:TypeId} {fz:Nat×Nat} (h:w.heap[b]?=some (.cells ⟨vs⟩ e fz)):w.shape? b=some (e,vs.length):=by grind[World.shape?]
theorem Inv.putRow {E:Env} {L:BL} {g:AP} {w:World} {s:AQ} (h:Inv E g w s) {id b:Nat} {cs':List AV} {vs vs':List Value} {e:TypeId}
  (hb:g.blk id=some b) (hh:w.heap[b]?=some (.cells ⟨vs⟩ e (0,0))) (hvl:vs'.length=vs.length) (hro:L.ro<=id) (hle:cs'.length<=vs'.length) (hl:VL g w cs' (vs'.take cs'.length)) :
  Ext L g w g (BO w b vs' e)/\Inv E g (BO w b vs' e) { s with bs:=s.bs.set id cs' }:=by
 have hlt:=h.FI hb;have hne:∀k,k≠b->(BO w b vs' e).heap[k]?=w.heap[k]?:=λk hk=>by grind[Bh]
 have rz:(BO w b vs' e).heap[b]?=some (.cells ⟨vs'⟩ e (0,0)):=by grind[Bh]
 have hsz:(BO w b vs' e).heap.size=w.heap.size:=by simp[BO]
 have ext:Ext L g w g (BO w b vs' e):={
  os:=rfl,tape:=rfl,output:=rfl,size:=AA
  mono:=λ_ _ hi=>hi
  cell:=λk o hi=>Ck (hne k (λhk=>h.GO id b o hb (hk ▸ hi))) o
  blk:=λ_ _ hi=>.inl hi
  dead:=λ_ hi=>hi
  shape:=λid' b' hb' _=>by
   by_cases hk:b'=b
   .subst hk; rw[Bv rz,Bv hh,hvl]
   grind[ED]
  tok:=λ_ l hl=>⟨l,hl,.inl rfl⟩
  Ga:=λid' b' hb' hlt'=>⟨hb',hne b' (λhk=>by subst hk; have:=h.FF id id' b' hb hb'; omega)⟩
  F0:=λt l hl _=>⟨hl,hne _ (λhk=>h.DL id b t l hb hl hk.symm),λ_ ho=>ho⟩
  out:=λk _ h1 _ _=>⟨hne k (λhk=>h1 id (hk ▸ hb)),λ_ ho=>ho⟩
  mp:=λ_ _ hb=>hb
  F1:=λ_ b' hb'=>⟨λ_=>hne b' (λhk=>h.mpB hb' (hk ▸ hb)),λ_ ho=>ho⟩
  K2:=λid' _ hb _=>⟨id',hb⟩
  HR:=λid' _ hb _=>⟨id',hb⟩
  DJ:=λ_ h=>h
  K3:=λ_ l hl _=>⟨l,hl,rfl⟩ }
 refine⟨ext,?_⟩
 exact {
  Ex:=λid' b' hb'=>by simpa using h.Ex id' b' hb'
  Dm:=λid' hd=>by simpa using h.Dm id' hd
  Dn:=λid' hd=>by
   have hid:id≠id':=λe=>by subst e; have:=g.hd _ hd; grind
   simp only[GJ hid]; exact h.Dn id' hd
  blk:=λid' b' hb'=>by
   by_cases hid:id'=id
   .subst hid
    have:b'=b:=AB;subst this;exact⟨cs',vs',e,by simp[h.Ex _ _ hb],rz,hle,hl.mono ext⟩
   .obtain⟨cs,us,e',h1,h2,h3,h4⟩:=h.blk id' b' hb'
    exact⟨cs,us,e',AB,by rw[hne b' (λhk=>hid (h.FF id' id b' hb' (hk ▸ hb)))]; omega,h3,h4.mono ext⟩
  GO:=h.GO
  Gx:=h.Gx
  Gy:=h.Gy
  tok:=λt l hl=>by
   obtain⟨us,e',h1,h2⟩:=h.tok t l hl
   grind
  HG:=h.HG
  FF:=h.FF
  Ge:=h.Ge
  DL:=h.DL
  Kf:=λk o hi=>by rw[hsz]; exact h.Kf k o hi
  Ec:=λid hid=>h.Ec id AB
  mp:=h.Iv (λid' b' hb'=>GJ (h.sq hb hb')) (λid' b' hb'=>hne b' (λhk=>h.mpB hb' (hk ▸ hb)))
  MM:=h.MM
  Ho:=h.Ho
  Dw:=λid hp=>by obtain⟨a,b,c⟩:=h.Dw id hp; grind
  Fv:=λgl row hr j c hj=>by
   obtain⟨v,h1,h2,h3⟩:=h.Fv gl row hr j c hj;exact⟨v,h1,by rw[ext.cell _ _ h1]; omega,h3.mono ext.mono ext.cell⟩
  Dc:=λgl row hr=>by
   obtain⟨h1,h2⟩:=h.Dc gl row hr;exact⟨h1,by rw[ext.cell _ _ h1]; omega⟩ }
theorem Wj (us:List Value):∀(vs:List Value) (k n:Nat),(CJ vs k us).take n=CJ (vs.take n) k us:=by
 induction us with
 | nil=>intro vs k n; rfl
 | cons u us ih=>
  grind[CJ,List.take_set]
theorem Yj {E:Env} {L:BL} {g:AP} {w:World} {s s':AQ} (hI:Inv E g w s) {t:TypeId} {a x:AV} {av xv:Value}
  (ha:V g w a av) (hx:V g w x xv) (h:OD E L s t a x=some s') :
  ∃w',(Instr.storeAt t av xv).run E.P w=.ok () w'/\Ext L g w g w'/\Inv E g w' s':=by
 unfold OD at h;split at h
 .rename_i id off i hi
  split at h
  .rename_i cs hcs
   simp only at h;split at h
   .rename_i hc
    obtain⟨h1,h2,h3,h4,_,sw⟩:=hc;simp at h; subst h;simp only[RX] at hcs;cases ha with
    | Li hd=>
     have:=hI.Dn id hd
     grind
    | @ptr _ _ b hb=>
     obtain⟨cs',vs,e,k1,k2,kle,k3⟩:=hI.blk id b hb;rw[hcs] at k1; simp at k1; subst k1;have hv:=Ej hx h4
     have hone:∀u∈xv.cells.toList,u.oneCell'=true:=by
      intro u hu;obtain⟨j,hj,rfl⟩:=NJ.1 hu;have hj':j<(cellsOf x).length:=by rw[hv.len]; omega
      exact Jl (hv.at_ j (cellsOf x)[j] _ (by simp[hj']) AD) AB
     have hlen:xv.cells.size=i.size:=by rw[<-IG,<-hv.len]; omega
     refine⟨_,?_,(hI.putRow (vs':=CJ vs off xv.cells.toList) (cs':=setCells cs off (cellsOf x)) hb k2 (Bn _ _ _) h3 (by grind[FY,Bn]) (by grind[FY,Wj,VL.setCells]))⟩;simp only[Instr.storeAt,Instr.sureAddr,storeVar,Sem.run_bind,Sem.run_pure,Result.andThen_ok,run_sizeOf hi,hlen,ne_eq,not_true_eq_false,I8];have:=F2 (P:=E.P) (b:=b) (o:=off) (e:=e) xv.cells.toList 0 w vs hone k2 AB;omega
   grind
  grind
 grind
theorem VL.full {g:AP} {w:World} {cs:List AV} {vs:List Value} (h:VL g w cs vs):cs.length<=vs.length/\VL g w cs (vs.take cs.length):=
 ⟨by rw[h.len]; simp,by rw[h.len,NK]; exact h⟩
def Cb (w:World) (vs:List Value) (e:TypeId):World:={ w with heap:=w.heap.push (.cells ⟨vs⟩ e (0,0)) }
theorem CL (w:World) (vs:List Value) (e:TypeId) (k:Nat) :
  (Cb w vs e).heap[k]?=if k=w.heap.size then some (.cells ⟨vs⟩ e (0,0)) else w.heap[k]?:=by grind[Cb]
theorem BG {w:World} {vs:List Value} {e:TypeId} {k:Nat} (h:k<w.heap.size):(Cb w vs e).heap[k]?=w.heap[k]?:=by grind[CL]
def AP.F3 (g:AP) (id b:Nat) (h:¬ g.dead id):AP:={ g with blk:=λi=>if i=id then some b else g.blk i,hd:=λi hi=>(if_neg (λe:i=id=>h (e ▸ hi))).trans (g.hd i hi) }
def AP.sx (g:AP) (J:Nat->Nat->Prop):AP:={ g with I:=λb o=>g.I b o\/J b o }
theorem Inv.fresh {E:Env} {g:AP} {w:World} {s:AQ} (h:Inv E g w s):¬ g.dead s.bs.length:=λhd=>by have:=h.Dm _ hd; omega
theorem Inv.ANI {E:Env} {g:AP} {w:World} {s:AQ} {r:List AV} {t:TypeId} {b:Nat} (h:Inv E g w { s with bs:=s.bs++[.pv (.sc (.pointer none))::r] }) (hb:g.blk s.bs.length=some b)
  (hs:w.shape? b=some (t,r.length+1)):Inv E g w { s with bs:=s.bs++[.bz s.bs.length t (r.length+1)::r] }:=by
 have hne:∀(i:Nat) (a c:List AV),i≠s.bs.length->(s.bs++[a])[i]?=(s.bs++[c])[i]?:=λi a c hi=>by grind
 exact {
  Ex:=λid b' hb'=>by have:=h.Ex id b' hb'; grind
  Dm:=λid hd=>by have:=h.Dm id hd; grind
  blk:=λid b' hb'=>by
   obtain⟨cs,vs,e,h1,h2,h3,h4⟩:=h.blk id b' hb'
   by_cases hid:id=s.bs.length
   .subst hid
    have:b'=b:=AB;subst this;simp at h1;subst h1;refine⟨.bz s.bs.length t (r.length+1)::r,vs,e,AD,h2,AA,?_⟩;cases vs with
    | nil=>grind
    | cons u us=>
     simp only[Bt,List.take_succ_cons] at h4 ⊢;have:=h4.head.DC;subst this;exact .cons (.bz hb hs) h4.tail
   grind
  GO:=h.GO
  Dn:=λid hd=>by
   have hid:id≠s.bs.length:=λe=>by have:=g.hd id hd; grind
   exact(hne id _ _ hid).trans (h.Dn id hd)
  Dw:=λid hp=>by obtain⟨a,c⟩:=h.Dw id hp; grind
  Ec:=λid hid=>h.Ec id AB
  mp:=h.Iv (λid b' hb'=>hne id _ _ λe=>by have:=(h.MM id b' hb').1; grind) (λ_ _ _=>rfl)
  MM:=h.MM
  Ho:=h.Ho
  Gx:=h.Gx,Gy:=h.Gy,tok:=h.tok,HG:=h.HG,FF:=h.FF,Ge:=h.Ge,DL:=h.DL,Kf:=h.Kf
  Fv:=h.Fv
  Dc:=h.Dc }
theorem Inv.N0 {E:Env} {g:AP} {w:World} {s:AQ} {z:List AV} {t:TypeId} {b:Nat} (h:Inv E g w { s with bs:=s.bs++[z] }) (hb:g.blk s.bs.length=some b) (hs:w.shape? b=some (t,z.length)) :
  Inv E g w { s with bs:=s.bs++[Tel.N0 E s.bs.length t z] }:=by
 unfold Tel.N0;cases E.bz t with
 | false=>exact h
 | true=>
  simp only[AM];split
  .exact h.ANI hb AA
  omega
theorem Inv.TK {E:Env} {L:BL} {g:AP} {w:World} {s:AQ} (h:Inv E g w s) {cs:List AV} {vs:List Value} (e:TypeId) (hle:cs.length<=vs.length) (hl:VL g w cs (vs.take cs.length)) :
  Ext L g w (g.F3 s.bs.length w.heap.size h.fresh) (Cb w vs e)/\Inv E (g.F3 s.bs.length w.heap.size h.fresh) (Cb w vs e) { s with bs:=s.bs++[cs] }:=by
 have hsz:(Cb w vs e).heap.size=w.heap.size+1:=by simp[Cb]
 have hne:∀id b,g.blk id=some b->id≠s.bs.length:=λid b hb=>YM (h.Ex id b hb)
 have hbk:∀id b,g.blk id=some b->(g.F3 s.bs.length w.heap.size h.fresh).blk id=some b:=λid b hb=>by grind[AP.F3]
 have inv:∀id b,(g.F3 s.bs.length w.heap.size h.fresh).blk id=some b->(id=s.bs.length/\b=w.heap.size)\/g.blk id=some b:=λid b hb=>by grind[AP.F3]
 have ext:Ext L g w (g.F3 s.bs.length w.heap.size h.fresh) (Cb w vs e):={
  os:=rfl,tape:=rfl,output:=rfl,size:=AA
  mono:=λ_ _ hi=>hi
  cell:=λk o hi=>Ck (BG (h.Kf k o hi)) o
  blk:=λid b hb=>.inl (hbk id b hb)
  dead:=λ_ hd=>hd
  shape:=λid b hb _=>ED (BG (h.FI hb))
  tok:=λ_ l hl=>⟨l,hl,.inl rfl⟩
  Ga:=λid b hb _=>⟨hbk id b hb,BG (h.FI hb)⟩
  F0:=λt l hl _=>⟨hl,BG (h.HU hl),λ_ ho=>ho⟩
  out:=λk hk _ _ _=>⟨BG hk,λ_ ho=>ho⟩
  mp:=λ_ _ hb=>hb
  F1:=λ_ b' hb'=>⟨λ_=>BG (h.PD hb'),λ_ ho=>ho⟩
  K2:=λid' _ hb _=>⟨id',hb⟩
  HR:=λid b hb hlt=>by grind
  DJ:=λ_ h=>h
  K3:=λ_ l hl _=>⟨l,hl,rfl⟩ }
 refine⟨ext,?_⟩
 exact {
  Ex:=λid b hb=>by
   rcases inv id b hb with ⟨rfl,_⟩|hb
   .simp
   .have:=h.Ex id b hb; grind
  Dm:=λid hd=>by have:=h.Dm id hd; grind
  Dn:=λid hd=>by rw[CT (h.Dm id hd)]; exact h.Dn id hd
  blk:=λid b hb=>by
   rcases inv id b hb with ⟨rfl,rfl⟩|hb
   .exact⟨cs,vs,e,AD,by grind[CL],hle,hl.mono ext⟩
   .obtain⟨cs',us,e',h1,h2,h3,h4⟩:=h.blk id b hb
    exact⟨cs',us,e',AB,by grind[BG],h3,h4.mono ext⟩
  GO:=λid b o hb hi=>by
   rcases inv id b hb with ⟨_,rfl⟩|hb
   .have:=h.Kf _ o hi; omega
   .exact h.GO id b o hb hi
  Gx:=h.Gx
  Gy:=h.Gy
  tok:=λt l hl=>by
   obtain⟨us,e',h1,h2⟩:=h.tok t l hl
   grind[BG]
  HG:=h.HG
  FF:=λid id' b hb hb'=>by
   rcases inv id b hb with ⟨e1,rfl⟩|hb
   .rcases inv id' _ hb' with ⟨e2,_⟩|hb'
    .rw[e1,e2]
    .have:=h.FI hb'; omega
   .rcases inv id' b hb' with ⟨_,rfl⟩|hb'
    .have:=h.FI hb; omega
    .exact h.FF id id' b hb hb'
  Ge:=h.Ge
  DL:=λid b t l hb hl=>by
   rcases inv id b hb with ⟨_,rfl⟩|hb
   .have:=h.HU hl; omega
   .exact h.DL id b t l hb hl
  Kf:=λk o hi=>by rw[hsz]; have:=h.Kf k o hi; omega
  Ec:=λid hid=>by
   by_cases e:id=s.bs.length
   .exact .inl ⟨_,if_pos e⟩
   .rcases h.Ec id AB with ⟨b,hb⟩|q
    .grind
    .exact .inr q
  mp:=h.Iv (λid' b' hb'=>CT (h.mpN hb')) (λid' b' hb'=>BG (h.PD hb'))
  MM:=λid b hb=>by
   obtain⟨a1,a2,a3⟩:=h.MM id b hb;exact⟨(if_neg (YM (h.mpN hb))).trans a1,a2,a3⟩
  Ho:=h.Ho
  Dw:=λid hp=>by
   obtain⟨a,b,c⟩:=h.Dw id hp;exact⟨AB,(if_neg AA).trans b,c⟩
  Fv:=λgl row hr j c hj=>by
   obtain⟨v,h1,h2,h3⟩:=h.Fv gl row hr j c hj;exact⟨v,h1,by rw[ext.cell _ _ h1]; omega,h3.mono ext.mono ext.cell⟩
  Dc:=λgl row hr=>by
   obtain⟨h1,h2⟩:=h.Dc gl row hr;exact⟨h1,by rw[ext.cell _ _ h1]; omega⟩ }
def O7 (w:World) (o:Obj):World:={ w with heap:=w.heap.push o }
theorem oB (w:World) (o:Obj) (k:Nat):(O7 w o).heap[k]?=if k=w.heap.size then some o else w.heap[k]?:=by grind[O7]
theorem D7 {w:World} {o:Obj} {k:Nat} (h:k<w.heap.size):(O7 w o).heap[k]?=w.heap[k]?:=by grind[oB]
theorem Inv.kL {E:Env} {L:BL} {g:AP} {w:World} {s:AQ} (h:Inv E g w s) (o:Obj) :
  Ext L g w (g.sx λb _=>b=w.heap.size) (O7 w o)/\Inv E (g.sx λb _=>b=w.heap.size) (O7 w o) s:=by
 have hsz:(O7 w o).heap.size=w.heap.size+1:=by simp[O7]
 have ext:Ext L g w (g.sx λb _=>b=w.heap.size) (O7 w o):={
  os:=rfl,tape:=rfl,output:=rfl,size:=AA
  mono:=λ_ _ hi=>.inl hi
  cell:=λk o hi=>Ck (D7 (h.Kf k o hi)) o
  blk:=λ_ _ hb=>.inl hb
  dead:=λ_ hd=>hd
  shape:=λid b hb _=>ED (D7 (h.FI hb))
  tok:=λ_ l hl=>⟨l,hl,.inl rfl⟩
  Ga:=λid b hb _=>⟨hb,D7 (h.FI hb)⟩
  F0:=λt l hl _=>⟨hl,D7 (h.HU hl),λo ho=>ho.resolve_right (λe=>by have:=h.HU hl; omega)⟩
  out:=λk hk _ _ _=>⟨D7 hk,λo ho=>ho.resolve_right (λe=>by omega)⟩
  mp:=λ_ _ hb=>hb
  F1:=λ_ b' hb'=>⟨λ_=>D7 (h.PD hb'),λo ho=>ho.resolve_right (λe=>by have:=h.PD hb'; omega)⟩
  K2:=λid' _ hb _=>⟨id',hb⟩
  HR:=λid _ hb _=>⟨id,hb⟩
  DJ:=λ_ h=>h
  K3:=λ_ l hl _=>⟨l,hl,rfl⟩ }
 refine⟨ext,?_⟩
 exact {
  Ex:=h.Ex
  Dm:=h.Dm
  Dn:=h.Dn
  blk:=λid b hb=>by
   obtain⟨cs',us,e',h1,h2,h3,h4⟩:=h.blk id b hb;exact⟨cs',us,e',h1,by grind[D7],h3,h4.mono ext⟩
  GO:=λid b o hb hi=>by
   rcases hi with hi|hi
   .exact h.GO id b o hb hi
   .have:=h.FI hb; omega
  Gx:=h.Gx
  Gy:=h.Gy
  tok:=λt l hl=>by
   obtain⟨us,e',h1,h2⟩:=h.tok t l hl
   grind[D7]
  HG:=λt l o hl hle hi=>by
   rcases hi with hi|hi
   .exact h.HG t l o hl hle hi
   .have:=h.HU hl; omega
  FF:=h.FF
  Ge:=h.Ge
  DL:=h.DL
  Kf:=λk o hi=>by
   rw[hsz];rcases hi with hi|hi
   .have:=h.Kf k o hi; omega
   omega
  Ec:=h.Ec
  mp:=h.Iv (λ_ _ _=>rfl) (λ_ _ hb'=>D7 (h.PD hb'))
  MM:=h.MM
  Ho:=h.Ho
  Dw:=h.Dw
  Fv:=λgl row hr j c hj=>by
   obtain⟨v,h1,h2,h3⟩:=h.Fv gl row hr j c hj;exact⟨v,.inl h1,by rw[ext.cell _ _ h1]; omega,h3.mono ext.mono ext.cell⟩
  Dc:=λgl row hr=>by
   obtain⟨h1,h2⟩:=h.Dc gl row hr;exact⟨.inl h1,by rw[ext.cell _ _ h1]; omega⟩ }
theorem Inv.ANJ {E:Env} {L:BL} {g:AP} {w:World} {s:AQ} (h:Inv E g w s) (vs:List Value) (e:TypeId) :
  Ext L g w (g.sx λb _=>b=w.heap.size) (Cb w vs e)/\Inv E (g.sx λb _=>b=w.heap.size) (Cb w vs e) s:=h.kL _
theorem sy (us:List Value):∀(vs:List Value) (off j:Nat),
  ((us.toArray.zipIdx j).foldl (λ(cs:Array Value) (p:Value×Nat)=>cs.setIfInBounds (off+p.2) p.1) ⟨vs⟩)=⟨CJ vs (off+j) us⟩:=by
 induction us with
 | nil=>grind[CJ]
 | cons u us ih=>
  intro vs off j;have:=ih (vs.set (off+j) u) off (j+1)
  grind[List.zipIdx_cons,CJ]
theorem OH {g:AP} {w:World} {place:Nat->Option (Nat×Nat)} (parts:List (Nat×AV)):∀{ps:List (Nat×Value)} {cs cs':List AV} {vs:List Value},
  parts.map (·.1)=ps.map (·.1)->(∀(i:Nat) (p:Nat×AV) (q:Nat×Value),parts[i]?=some p->ps[i]?=some q->V g w p.2 q.2)->VL g w cs vs ->
  MK place cs parts=some cs'->∃vs',Instr.fill place ⟨vs⟩ ps=some ⟨vs'⟩/\VL g w cs' vs':=by
 induction parts with
 | nil=>
  intro ps cs cs' vs hk _ hl h;have:ps=[]:=Je;subst this;simp[MK] at h; subst h;exact⟨vs,rfl,hl⟩
 | cons p parts ih=>
  intro ps cs cs' vs hk hv hl h;cases ps with
  | nil=>grind
  | cons q ps=>
   obtain⟨i,x⟩:=p;obtain⟨i',y⟩:=q;simp at hk;obtain⟨rfl,hk⟩:=hk;simp only[MK] at h;simp only[Instr.fill];cases hp:place i with
   | none=>grind
   | some os=>
    obtain⟨off,size⟩:=os;simp only[hp] at h;split at h
    .rename_i hn
     obtain⟨h1,h2,hok⟩:=hn;have hxy:V g w x y:=hv 0 (i,x) (i,y) rfl rfl;have hc:=Ej hxy hok;have hlen:y.cells.size=(cellsOf x).length:=by rw[hc.len]; simp
     have hvl:=hl.len;have hif:(decide (y.cells.size≠size)||decide (off+y.cells.size>(⟨vs⟩:Array Value).size))=false:=AB;simp only[hif,DN,I8];have e:=sy y.cells.toList vs off 0;simp only[HL,Gr] at e;rw[e];exact ih hk (λj p q hp hq=>hv (j+1) p q AB AB) (VL.setCells off hl hc) h
    grind
theorem D8 {P:Program} {g:AP} {w:World} {t:TypeId} {z:List AV} (h:zeroOf P t=some z) :
  ∃i v,P.info? t=some i/\i.zero=some v/\(zeroValue t).run P w=.ok v w/\VL g w z v.cells.toList:=by
 unfold zeroOf at h;split at h
 .rename_i i hi
  split at h
  .rename_i v hv
   simp at h; subst h;refine⟨i,v,hi,hv,by simp[*,zeroValue,run_typeInfo],?_⟩;cases v with
   | agg cs=>exact VL.map V.Hw cs.toList
   | tuple vs=>exact .cons (V.tuple' (VL.AAQ vs.toList)) .nil
   | slice a n c=>
    have:cellsOf (ofConst (.slice a n c))=[Hw (.slice a n c)]:=by
     simp only[ofConst,Hw];split <;> rfl
    rw[this];exact .cons (V.Hw _) .nil
   | _=>exact .cons (V.Kc _) .nil
  grind
 grind
theorem Wk {g:AP} {w:World} {U:Nat->AV} {a:Act} (hU:∀t,V g w (U t) (a.tmps.getD t undef)) (parts:Array (Nat×Operand)) :
  (parts.toList.map λp=>(p.1,Am U p.2)).map (·.1)=((parts.map λ(i,x)=>(i,a.eval x)).toList).map (·.1) /\
  ∀(i:Nat) p q,(parts.toList.map λp=>(p.1,Am U p.2))[i]?=some p->((parts.map λ(i,x)=>(i,a.eval x)).toList)[i]?=some q->V g w p.2 q.2:=by
 constructor
 .simp
 grind[Av]
structure Flat (I:Nat->Nat->Prop) (w:World) (rows:List (List PV)) (sz:Nat) (us:List Value):Prop where
 len:us.length=rows.length*sz
 hsz:∀row∈rows,row.length=sz
 at_:∀i row j c,rows[i]?=some row->row[j]?=some c->∃u,us[i*sz+j]?=some u/\VP I w c u
theorem Flat.mono {I I':Nat->Nat->Prop} {w w':World} (hI:∀b o,I b o->I' b o) (hw:∀b o,I b o->w'.cell? ⟨b,o,none⟩=w.cell? ⟨b,o,none⟩)
  {rows:List (List PV)} {sz:Nat} {us:List Value} (h:Flat I w rows sz us):Flat I' w' rows sz us:=
 ⟨h.len,h.hsz,λi row j c hr hc=>by obtain⟨u,h1,h2⟩:=h.at_ i row j c hr hc; exact⟨u,h1,h2.mono hI hw⟩⟩
theorem Flat.append {I:Nat->Nat->Prop} {w:World} {rows EK:List (List PV)} {sz:Nat} {us us':List Value} (h:Flat I w rows sz us) (k:Flat I w EK sz us') :
  Flat I w (rows++EK) sz (us++us'):=by
 refine⟨by simp[h.len,k.len,EN],λrow hr=>?_,λi row j c hr hc=>?_⟩
 .rcases B4.1 hr with hr|hr
  .exact h.hsz row hr
  .exact k.hsz row hr
 .rcases Fl i rows.length with hi|hi
  .rw[CT hi] at hr
   obtain⟨u,h1,h2⟩:=h.at_ i row j c hr hc
   grind
  .rw[EO hi] at hr
   obtain⟨u,h1,h2⟩:=k.at_ _ row j c hr hc;refine⟨u,?_,h2⟩
   have e:i*sz=us.length+(i-rows.length)*sz:=by
    rw[h.len,<-EN]; grind
   grind
theorem Flat.fY {I:Nat->Nat->Prop} {w:World} {rows:List (List PV)} {sz:Nat} {us:List Value} (h:Flat I w rows sz us) {b o:Nat}
  (hi:∀q,q<us.length->I b (o+q)) (hc:∀q u,us[q]?=some u->w.cell? ⟨b,o+q,none⟩=some u) :
  ES I w rows (some ⟨b,o,none⟩) b o sz (λi j=>(us[i*sz+j]?).getD undef):=by
 refine⟨h.hsz,λ_ _=>rfl,λi row j c hr hj=>?_,λi row j c hr hj=>?_⟩
 .obtain⟨u,h1,_⟩:=h.at_ i row j c hr hj
  grind
 .obtain⟨u,h1,h2⟩:=h.at_ i row j c hr hj
  grind
theorem fZ {i sz j:Nat} (h:j<sz):(i*sz+j) / sz=i/\(i*sz+j) % sz=j:=by grind[Nat.mul_comm,Nat.mul_add_div,Nat.div_eq_of_lt,Nat.mul_add_mod,Nat.mod_eq_of_lt]
theorem ES.flat {I:Nat->Nat->Prop} {w:World} {rows:List (List PV)} {base:Option Addr} {b o sz:Nat} {f:Nat->Nat->Value} (h:ES I w rows base b o sz f) (hs:sz≠0) :
  ∃us,Flat I w rows sz us/\∀q u,us[q]?=some u->I b (o+q)/\w.cell? ⟨b,o+q,none⟩=some u:=by
 refine⟨(List.range (rows.length*sz)).map (λq=>f (q / sz) (q % sz)),⟨AD,h.hsz,λi row j c hr hj=>?_⟩,λq u hq=>?_⟩
 .have hi:=DD hr
  have hj':j<sz:=by rw[<-h.hsz row (A3 hr)]; grind
  have hlt:i*sz+j<rows.length*sz:=by
   have:(i+1)*sz<=rows.length*sz:=B5 _ hi
   grind
  refine⟨f i j,?_,h.hv i row j c hr hj⟩;obtain⟨d1,d2⟩:=fZ (i:=i) hj';simp[FJ,Ov hlt,d1,d2]
 .have hlt:q<rows.length*sz:=by have:=DD hq; simpa using this
  simp[FJ,Ov hlt] at hq;subst hq;have hi:q / sz<rows.length:=Nat.div_lt_of_lt_mul AB;have hm:q % sz<sz:=Nat.mod_lt _ AA;have hr:rows[q / sz]?=some rows[q / sz]:=by simp[hi]
  have hl:rows[q / sz].length=sz:=h.hsz _ AD;have hc:=h.hc (q / sz) rows[q / sz] (q % sz) (rows[q / sz][q % sz]'(AA)) hr (by simp[hl,hm])
  grind[Nat.div_add_mod]
theorem Ed {g:AP} {w:World} {x:AV} {rows:List (List PV)} {v:Value} (h:V g w x v) (hr:rowsOf x=some rows) :
  ∃base cap b o sz f,v=.slice base rows.length cap/\rows.length<=cap/\ES g.I w rows base b o sz f:=by
 unfold rowsOf at hr;split at hr
 .simp at hr; subst hr
  cases h with|pv h=>exact h.rows
 .simp at hr; subst hr
  cases h with|AE h=>grind
 .simp at hr; subst hr
  cases h with|own h hcap=>grind
 grind
theorem fc {g:AP} {w:World} {x:AV} {p:PV} {v:Value} (h:V g w x v) (hp:KB x=some p):VP g.I w p v:=by
 unfold KB at hp;split at hp
 .simp at hp; subst hp; cases h with|pv h=>exact h
 .simp at hp; subst hp; cases h with|AE h=>grind[VP.JH]
 .simp at hp; subst hp; cases h with|own h hcap=>grind[VP.JH]
 grind
theorem G5 {g:AP} {w:World} {cs:List AV}:∀{ps:List PV} {vs:List Value},VL g w cs vs->Cp cs=some ps ->
  ps.length=vs.length/\∀(j:Nat) p,ps[j]?=some p->∃u,vs[j]?=some u/\VP g.I w p u:=by
 induction cs with
 | nil=>intro ps vs h hp; simp[Cp] at hp; subst hp; rw[h.GN]; simp
 | cons c cs ih=>
  intro ps vs h hp;obtain⟨u,us,rfl,h1,h2⟩:=h.cases;simp only[Cp] at hp;split at hp
  .rename_i p qs hc hcs
   simp at hp; subst hp;obtain⟨k1,k2⟩:=ih h2 hcs;refine⟨AB,λj p' hj=>?_⟩;cases j with
   | zero=>simp at hj; subst hj; exact⟨u,rfl,fc h1 hc⟩
   | succ j=>grind
  grind
theorem Fe (k:Nat):∀(n:Nat) (ps:List PV),(CI k n ps).length=n:=by
 intro n
 induction n with
 | zero=>intro ps; rfl
 | succ n ih=>grind[CI]
theorem TL (k:Nat):∀(n:Nat) (ps:List PV) (i:Nat) (row:List PV),(CI k n ps)[i]?=some row->row=(ps.drop (i*k)).take k:=by
 intro n
 induction n with
 | zero=>grind[CI]
 | succ n ih=>
  intro ps i row h;cases i with
  | zero=>grind[CI]
  | succ i=>
   grind[CI,List.drop_drop]
theorem IX {I:Nat->Nat->Prop} {w:World} {k n:Nat} {ps:List PV} {us:List Value} (hn:us.length=n*k) (hl:ps.length=us.length)
  (h:∀(j:Nat) p,ps[j]?=some p->∃u,us[j]?=some u/\VP I w p u):Flat I w (CI k n ps) k us:=by
 refine⟨by rw[Fe,hn],λrow hr=>?_,λi row j c hr hj=>?_⟩
 .obtain⟨i,hi,rfl⟩:=NJ.1 hr
  rw[Fe] at hi;have:=TL k n ps i _ (Au AA);rw[this];have:(i+1)*k<=n*k:=B5 _ hi
  grind
 .have:=TL k n ps i row hr
  grind
theorem Rb {α:Type} (l:List α):∀n,(Fu n l).length=n*l.length:=by
 intro n
 induction n with
 | zero=>simp[Fu]
 | succ n ih=>grind[Fu]
theorem VL.Fu {g:AP} {w:World} {cs:List AV} {vs:List Value} (h:VL g w cs vs):∀n,VL g w (Tel.Fu n cs) (Tel.Fu n vs):=by
 intro n
 induction n with
 | zero=>exact .nil
 | succ n ih=>exact h.append ih
theorem fe (z:List Value) (hz:z≠[]) (d:Value):∀n,(List.range (n*z.length)).map (λi=>(z[i % z.length]?).getD d)=Fu n z:=by
 have hp:0<z.length:=List.length_pos_iff.2 hz;intro n
 induction n with
 | zero=>simp[Fu]
 | succ n ih=>
  have e:(n+1)*z.length=z.length+n*z.length:=AB;rw[e,List.range_add,Ow];simp only[Ox,Fu];congr 1
  .apply Fm
   grind[Nat.mod_eq_of_lt]
  simp[*,YN]
theorem TM (z:Array Value) (n:Nat) (hz:z.size≠0):(Array.range (n*z.size)).map (z[· % z.size]!)=⟨Fu n z.toList⟩:=by
 apply NL;have hne:z.toList≠[]:=Je;have:=fe z.toList hne default n
 grind[Array.toList_map,List.map_congr_left]
end Go.Tel
