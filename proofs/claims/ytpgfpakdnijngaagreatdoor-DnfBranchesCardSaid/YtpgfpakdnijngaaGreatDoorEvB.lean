/-
  The relation between abstract and concrete states, and what it keeps.
-/
import Derived.Test.YtpgfpakdnijngaaGreatDoorEvA
set_option linter.all false
namespace Go.Tel
open Option renaming some->Y,none->G
open Bool renaming true->Z
open Go renaming World->ϙ,Value->ϛ,TypeId->ϝ,Program->ϟ
structure Qo where
 b:Nat
 cap:Nat
 sz:Nat
 n:Nat
 e:ϝ
structure AZ where
 blk:Nat->Option Nat
 dead:Nat->Prop
 Db:Nat->Prop
 tok:Nat->Option Qo
 mp:Nat->Option Nat
 I:Nat->Nat->Prop
 hd:∀id,dead id->blk id=G
inductive VP (I:Nat->Nat->Prop) (w:ϙ):PV->ϛ->Prop where
 | sc (v:ϛ):VP I w (.sc v) v
 | list (rows:Ϯ) (base:Option Addr) (cap b o sz:Nat) (f:Nat->Nat->ϛ)
   (hcap:rows.length<=cap)
   (hsz:∀row∈rows,row.length=sz)
   (hbase:rows≠[]->sz≠0->base=Y ⟨b,o,G⟩)
   (hc:∀i row j c,rows[i]?=Y row->row[j]?=Y c->I b (o+i*sz+j)/\w.cell? ⟨b,o+i*sz+j,G⟩=Y (f i j))
   (hv:∀i row j c,rows[i]?=Y row->row[j]?=Y c->VP I w c (f i j)) :
   VP I w (.list rows) (.slice base rows.length cap)
structure Em (I:Nat->Nat->Prop) (w:ϙ) (rows:Ϯ) (base:Option Addr) (b o sz:Nat) (f:Nat->Nat->ϛ):Prop where
 hsz:∀row∈rows,row.length=sz
 hbase:rows≠[]->sz≠0->base=Y ⟨b,o,G⟩
 hc:∀i row j c,rows[i]?=Y row->row[j]?=Y c->I b (o+i*sz+j)/\w.cell? ⟨b,o+i*sz+j,G⟩=Y (f i j)
 hv:∀i row j c,rows[i]?=Y row->row[j]?=Y c->VP I w c (f i j)
theorem VP.mono {I d:Nat->Nat->Prop} {w w':ϙ} (t:∀b o,I b o->d b o) (u:∀b o,I b o->w'.cell? ⟨b,o,G⟩=w.cell? ⟨b,o,G⟩)
  {p:PV} {v:ϛ} (h:VP I w p v):VP d w' p v:=by
 induction h with
 | sc v=>exact .sc v
 | list rows k m b o sz f l n e x _ r=>
  refine .list rows k m b o sz f l n e (λi s j c y z=>?_) r
  grind
theorem Em.mono {I l:Nat->Nat->Prop} {w w':ϙ} (m:∀b o,I b o->l b o) (n:∀b o,I b o->w'.cell? ⟨b,o,G⟩=w.cell? ⟨b,o,G⟩)
  {rows:Ϯ} {base:Option Addr} {b o sz:Nat} {f:Nat->Nat->ϛ} (h:Em I w rows base b o sz f):Em l w' rows base b o sz f:=by
 refine⟨h.hsz,h.hbase,λi d j c e k=>?_,λi d j c e k=>(h.hv i d j c e k).mono m n⟩;have⟨p,r⟩:=h.hc i d j c e k
 grind
def Em.nil {I:Nat->Nat->Prop} {w:ϙ} {base:Option Addr} {b o sz:Nat} {f:Nat->Nat->ϛ}:Em I w [] base b o sz f:=
 ⟨AD,AD,AD,AD⟩
theorem VP.Ja {I:Nat->Nat->Prop} {w:ϙ} {rows:Ϯ} {base:Option Addr} {b o sz cap:Nat} {f:Nat->Nat->ϛ}
  (h:Em I w rows base b o sz f) (d:rows.length<=cap):VP I w (.list rows) (.slice base rows.length cap):=
 .list rows base cap b o sz f d h.hsz h.hbase h.hc h.hv
def VP.rows {I:Nat->Nat->Prop} {w:ϙ} {rows:Ϯ} {v:ϛ} (h:VP I w (.list rows) v) :
  ∃base cap b o sz f,v=.slice base rows.length cap/\rows.length<=cap/\Em I w rows base b o sz f:=by
 cases h with
 | list _ base cap b o sz f e i d j k=>exact⟨base,cap,b,o,sz,f,rfl,e,i,d,j,k⟩
theorem VP.Jo {I:Nat->Nat->Prop} {w:ϙ} {u v:ϛ} (h:VP I w (.sc u) v):v=u:=by cases h; rfl
inductive V (g:AZ) (w:ϙ):AV->ϛ->Prop where
 | pv {p:PV} {v:ϛ} (h:VP g.I w p v):V g w (.pv p) v
 | ptr {id off b:Nat} (h:g.blk id=Y b):V g w (.ptr id off) (.pointer (Y ⟨b,off,G⟩))
 | LS {id off:Nat} {a:Option Addr} (h:g.dead id):V g w (.ptr id off) (.pointer a)
 | EF (gl off:Nat):V g w (.EF gl off) (.pointer (Y ⟨gl,off,G⟩))
 | DF {row:Ϧ} {b o:Nat} (off:Nat) (f:Nat->ϛ)
   (h:∀j c,row[j]?=Y c->g.I b (o+j)/\w.cell? ⟨b,o+j,G⟩=Y (f j)/\VP g.I w c (f j)) :
   V g w (.DF row off) (.pointer (Y ⟨b,o+off,G⟩))
 | AE {rows:Ϯ} {base:Option Addr} {b o sz:Nat} {f:Nat->Nat->ϛ} (h:Em g.I w rows base b o sz f) :
   V g w (.AE rows) (.slice base rows.length rows.length)
 | own {t:Nat} {rows:Ϯ} {base:Option Addr} {b o sz cap:Nat} {f:Nat->Nat->ϛ} {l:Qo} (h:Em g.I w rows base b o sz f)
   (hcap:rows.length<=cap) (ht:g.tok t=Y l) (hn:rows.length<=l.n)
   (hf:rows.length=l.n->base=Y ⟨l.b,0,G⟩/\cap=l.cap/\sz=l.sz/\b=l.b/\o=0) :
   V g w (.own t rows) (.slice base rows.length cap)
 | ref {id off len sz b cap n:Nat} {e:ϝ} (h:g.blk id=Y b) (hcap:len<=cap) (hs:w.shape? b=Y (e,n)) (hn:off+cap*sz<=n) :
   V g w (.ref id off len sz) (.slice (Y ⟨b,off,G⟩) len cap)
 | Jb {id off len sz n c:Nat} {a:Option Addr} (h:g.dead id):V g w (.ref id off len sz) (.slice a n c)
 | Gy {a:Option Addr}:V g w .Gy (.pointer a)
 | Hl {id b:Nat} (h:g.mp id=Y b):V g w (.Hl id) (.map (Y b))
 | bz {id b n:Nat} {t:ϝ} (h:g.blk id=Y b) (hs:w.shape? b=Y (t,n)):V g w (.bz id t n) (.pointer G)
 | ql {id n:Nat} {t:ϝ} (h:g.dead id):V g w (.bz id t n) (.pointer G)
 | func {fn:Fn} {first captured:Ϭ} {vs us:List ϛ} (hl:first.length=vs.length) (hm:captured.length=us.length)
   (h:∀(i:Nat) c v,first[i]?=Y c->vs[i]?=Y v->V g w c v) (k:∀(i:Nat) c v,captured[i]?=Y c->us[i]?=Y v->V g w c v) :
   V g w (.func fn first captured) (.func fn vs.toArray us.toArray)
 | iface {t:ϝ} {x:AV} {v:ϛ} (h:V g w x v):V g w (.iface t x) (.iface t v)
 | agg {cs:Ϭ} {vs:List ϛ} (hl:cs.length=vs.length) (h:∀(i:Nat) c v,cs[i]?=Y c->vs[i]?=Y v->V g w c v):V g w (.agg cs) (.agg vs.toArray)
 | tuple {cs:Ϭ} {vs:List ϛ} (hl:cs.length=vs.length) (h:∀(i:Nat) c v,cs[i]?=Y c->vs[i]?=Y v->V g w c v):V g w (.tuple cs) (.tuple vs.toArray)
structure VL (g:AZ) (w:ϙ) (cs:Ϭ) (vs:List ϛ):Prop where
 len:cs.length=vs.length
 at_:∀(i:Nat) c v,cs[i]?=Y c->vs[i]?=Y v->V g w c v
def VL.nil {g:AZ} {w:ϙ}:VL g w [] []:=⟨rfl,AD⟩
theorem VL.cons {g:AZ} {w:ϙ} {c:AV} {v:ϛ} {cs:Ϭ} {vs:List ϛ} (h:V g w c v) (k:VL g w cs vs):VL g w (c::cs) (v::vs):=
 ⟨by simp[k.len],λi=>by
  cases i with
  | zero=>grind
  | succ i=>simpa using k.at_ i⟩
def VL.head {g:AZ} {w:ϙ} {c:AV} {v:ϛ} {cs:Ϭ} {vs:List ϛ} (h:VL g w (c::cs) (v::vs)):V g w c v:=h.at_ 0 c v rfl rfl
def VL.tail {g:AZ} {w:ϙ} {c:AV} {v:ϛ} {cs:Ϭ} {vs:List ϛ} (h:VL g w (c::cs) (v::vs)):VL g w cs vs:=
 ⟨by have:=h.len; grind,λi c v b d=>h.at_ (i+1) c v AB AB⟩
def VL.cases {g:AZ} {w:ϙ} {c:AV} {cs:Ϭ} {vs:List ϛ} (h:VL g w (c::cs) vs):∃u us,vs=u::us/\V g w c u/\VL g w cs us:=by
 cases vs with
 | nil=>have:=h.len; grind
 | cons u us=>exact⟨u,us,rfl,h.head,h.tail⟩
def VL.Fb {g:AZ} {w:ϙ} {vs:List ϛ} (h:VL g w [] vs):vs=[]:=by
 have:=h.len; grind
def VL.append {g:AZ} {w:ϙ} {cs ds:Ϭ} {vs us:List ϛ} (h:VL g w cs vs) (k:VL g w ds us):VL g w (cs++ds) (vs++us):=by
 induction cs generalizing vs with
 | nil=>rw[h.Fb]; grind
 | cons c cs d=>
  obtain⟨u,b,rfl,e,f⟩:=h.cases
  grind[cons]
def VL.take {g:AZ} {w:ϙ} {cs:Ϭ} {vs:List ϛ} (h:VL g w cs vs) (n:Nat):VL g w (cs.take n) (vs.take n):=
 ⟨by simp[h.len],λi c v b d=>by
  rw[PO] at b d;split at b
  .rename_i e; rw[if_pos e] at d; exact h.at_ i c v b d
  grind⟩
def VL.drop {g:AZ} {w:ϙ} {cs:Ϭ} {vs:List ϛ} (h:VL g w cs vs) (n:Nat):VL g w (cs.drop n) (vs.drop n):=
 ⟨by simp[h.len],λi c v b d=>by
  rw[List.getElem?_drop] at b d;exact h.at_ _ c v b d⟩
def VL.get {g:AZ} {w:ϙ} {cs:Ϭ} {vs:List ϛ} (h:VL g w cs vs) {i:Nat} {c:AV} (b:cs[i]?=Y c):∃v,vs[i]?=Y v/\V g w c v:=by
 have d:i<vs.length:=by
  rw[<-h.len]
  grind
 exact⟨vs[i],AD,h.at_ i c _ b AD⟩
theorem VL.set {g:AZ} {w:ϙ} {cs:Ϭ} {vs:List ϛ} (h:VL g w cs vs) {c:AV} {v:ϛ} (i:Nat) (l:V g w c v):VL g w (cs.set i c) (vs.set i v):=by
 refine⟨by simp[h.len],λj f k b d=>?_⟩;rw[List.getElem?_set] at b d;split at b
 .grind
 .rename_i e
  rw[if_neg e] at d;exact h.at_ j f k b d
structure Ext (L:Ba) (g:AZ) (w:ϙ) (g':AZ) (w':ϙ):Prop where
 os:w'.os=w.os
 tape:w'.tape=w.tape
 output:w'.output=w.output
 size:w.heap.size<=w'.heap.size
 mono:∀b o,g.I b o->g'.I b o
 cell:∀b o,g.I b o->w'.cell? ⟨b,o,G⟩=w.cell? ⟨b,o,G⟩
 blk:∀id b,g.blk id=Y b->g'.blk id=Y b\/g'.dead id
 dead:∀id,g.dead id->g'.dead id
 shape:∀id b,g.blk id=Y b->g'.blk id=Y b->w'.shape? b=w.shape? b
 tok:∀t l,g.tok t=Y l->∃l',g'.tok t=Y l'/\(l'=l\/l.n<l'.n)
 GK:∀id b,g.blk id=Y b->id<L.ro->g'.blk id=Y b/\w'.heap[b]?=w.heap[b]?
 F5:∀t l,g.tok t=Y l->t<L.rt->g'.tok t=Y l/\w'.heap[l.b]?=w.heap[l.b]?/\∀o,g'.I l.b o->g.I l.b o
 out:∀b,b<w.heap.size->(∀id,g.blk id≠Y b)->(∀t l,g.tok t=Y l->l.b≠b)->(∀id,g.mp id≠Y b)->w'.heap[b]?=w.heap[b]?/\∀o,g'.I b o->g.I b o
 mp:∀id b,g.mp id=Y b->g'.mp id=Y b
 F6:∀id b,g.mp id=Y b->(id<L.ro->w'.heap[b]?=w.heap[b]?)/\∀o,g'.I b o->g.I b o
 K4:∀id b,g'.mp id=Y b->b<w.heap.size->∃Mv,g.mp Mv=Y b
 HY:∀id b,g'.blk id=Y b->b<w.heap.size->∃Mv,g.blk Mv=Y b
 K5:∀t l',g'.tok t=Y l'->l'.b<w.heap.size->∃l,g.tok t=Y l/\l.b=l'.b
 Db:∀id,g.Db id->g'.Db id
theorem Ext.refl (L:Ba) (g:AZ) (w:ϙ):Ext L g w g w:=
 ⟨rfl,rfl,rfl,AU _,λ_ _ h=>h,λ_ _ _=>rfl,λ_ _ h=>.inl h,λ_ h=>h,λ_ _ _ _=>rfl,λ_ l h=>⟨l,h,.inl rfl⟩,λ_ _ h _=>⟨h,rfl⟩,
  λ_ _ h _=>⟨h,rfl,λ_ h=>h⟩,λ_ _ _ _ _=>⟨rfl,λ_ h=>h⟩,λ_ _ h=>h,λ_ _ _=>⟨λ_=>rfl,λ_ h=>h⟩,λid _ h _=>⟨id,h⟩,λid _ h _=>⟨id,h⟩,λ_ l h _=>⟨l,h,rfl⟩,λ_ h=>h⟩
theorem EA {w w':ϙ} {b:Nat} (h:w'.heap[b]?=w.heap[b]?):w'.shape? b=w.shape? b:=by grind[World.shape?]
def Ext.trans {L:Ba} {g g' g'':AZ} {w w' w'':ϙ} (h:Ext L g w g' w') (k:Ext L g' w' g'' w''):Ext L g w g'' w'' where
 os:=k.os.trans h.os
 tape:=k.tape.trans h.tape
 output:=k.output.trans h.output
 size:=BC h.size k.size
 mono:=λb o hi=>k.mono b o (h.mono b o hi)
 cell:=λb o hi=>(k.cell b o (h.mono b o hi)).trans (h.cell b o hi)
 blk:=λid b hb=>by
  rcases h.blk id b hb with x|x
  .exact k.blk id b x
  .exact .inr (k.dead id x)
 dead:=λid hd=>k.dead id (h.dead id hd)
 shape:=λid b hb AVp=>by
  rcases h.blk id b hb with x|x
  .exact(k.shape id b x AVp).trans (h.shape id b hb x)
  .have:=g''.hd id (k.dead id x); grind
 tok:=λt l hl=>by
  have⟨l',h1,h2⟩:=h.tok t l hl;have⟨l'',k1,k2⟩:=k.tok t l' h1
  grind
 GK:=λid b hb hlt=>by
  have⟨h1,h2⟩:=h.GK id b hb hlt;have⟨k1,k2⟩:=k.GK id b h1 hlt
  grind
 F5:=λt l hl hlt=>by
  have⟨a1,a2,a3⟩:=h.F5 t l hl hlt;have⟨b1,b2,b3⟩:=k.F5 t l a1 hlt
  grind
 out:=λb hb h1 h2 h3=>by
  have⟨a1,a2⟩:=h.out b hb h1 h2 h3
  have⟨b1,b2⟩:=k.out b (Fu hb h.size) (λid e=>by obtain⟨Mv,e0⟩:=h.HY id b e hb; grind)
   (λt l' hl e=>by have⟨l,hl1,hl2⟩:=h.K5 t l' hl (e ▸ hb); grind) (λid e=>by have⟨Mv,e0⟩:=h.K4 id b e hb; grind)
  grind
 mp:=λid b hb=>k.mp id b (h.mp id b hb)
 F6:=λid b hb=>by
  have⟨a1,a2⟩:=h.F6 id b hb;have⟨b1,b2⟩:=k.F6 id b (h.mp id b hb)
  grind
 K4:=λid b hb hlt=>by
  have⟨id1,h1⟩:=k.K4 id b hb (Fu hlt h.size);exact h.K4 id1 b h1 hlt
 HY:=λid b hb hlt=>by
  have⟨id1,h1⟩:=k.HY id b hb (Fu hlt h.size);exact h.HY id1 b h1 hlt
 K5:=λt l'' hl hlt=>by
  have⟨l',k1,k2⟩:=k.K5 t l'' hl (Fu hlt h.size);have⟨l,h1,h2⟩:=h.K5 t l' k1 (k2 ▸ hlt)
  grind
 Db:=λid hp=>k.Db id (h.Db id hp)
theorem V.mono {L:Ba} {g g':AZ} {w w':ϙ} (e:Ext L g w g' w') {a:AV} {v:ϛ} (h:V g w a v):V g' w' a v:=by
 induction h with
 | pv h=>exact .pv (h.mono e.mono e.cell)
 | ptr h=>
  rcases e.blk _ _ h with k|k
  all_goals grind[ptr,LS]
 | LS h=>exact .LS (e.dead _ h)
 | EF t m=>grind[EF]
 | DF m f h=>
  refine .DF m f (λj c o=>?_);have⟨b,p,r⟩:=h j c o;exact⟨e.mono _ _ b,by rw[e.cell _ _ b]; omega,r.mono e.mono e.cell⟩
 | AE h=>exact .AE (h.mono e.mono e.cell)
 | own h i s hn hf=>
  have⟨u,b,p⟩:=e.tok _ _ s;refine .own (h.mono e.mono e.cell) i b ?_ ?_
  all_goals grind
 | ref h i l hn=>
  rcases e.blk _ _ h with k|k
  .exact .ref k i ((e.shape _ _ h k).trans l) hn
  grind[Jb]
 | Jb h=>exact .Jb (e.dead _ h)
 | Gy=>exact .Gy
 | Hl h=>exact .Hl (e.mp _ _ h)
 | bz h l=>
  rcases e.blk _ _ h with k|k
  .exact .bz k ((e.shape _ _ h k).trans l)
  .exact .ql k
 | ql h=>exact .ql (e.dead _ h)
 | func n hm _ _ d x=>grind[func]
 | iface _ d=>exact .iface d
 | agg n _ d=>grind[agg]
 | tuple n _ d=>grind[tuple]
theorem VL.mono {L:Ba} {g g':AZ} {w w':ϙ} (e:Ext L g w g' w') {cs:Ϭ} {vs:List ϛ} (h:VL g w cs vs):VL g' w' cs vs:=
 ⟨h.len,λi c v b d=>(h.at_ i c v b d).mono e⟩
structure Inv (E:Env) (g:AZ) (w:ϙ) (s:AY):Prop where
 FC:∀id b,g.blk id=Y b->id<s.bs.length
 EB:∀id,g.dead id->id<s.bs.length
 blk:∀id b,g.blk id=Y b->∃cs vs e,s.bs[id]?=Y cs/\w.heap[b]?=Y (.cells ⟨vs⟩ e (0,0))/\cs.length<=vs.length/\VL g w cs (vs.take cs.length)
 GL:∀id b o,g.blk id=Y b->¬ g.I b o
 D3:∀id,g.dead id->s.bs[id]?=Y []
 EJ:∀id,g.Db id->id<s.bs.length/\g.blk id=G/\¬ g.dead id
 Ev:∀id,id<s.bs.length->(∃b,g.blk id=Y b)\/g.dead id\/g.Db id\/∃b,g.mp id=Y b
 mp:∀id b,g.mp id=Y b->∃es clock,s.bs[id]?=Y [.PZ es clock]/\w.heap[b]?=Y (.map (List.toArray es) clock)
 Mh:∀id b,g.mp id=Y b->g.blk id=G/\¬ g.dead id/\¬ g.Db id
 Hy:∀id id' b,g.mp id=Y b->g.mp id'=Y b->id=id'
 HH:∀t n k,s.ts[t]?=Y (n,k)->∃l,g.tok t=Y l/\l.n=n/\l.e=k
 HI:∀t l,g.tok t=Y l->s.ts[t]?=Y (l.n,l.e)
 tok:∀t l,g.tok t=Y l->∃vs fz,w.heap[l.b]?=Y (.cells ⟨vs⟩ l.e fz)/\vs.length=l.cap*l.sz/\l.n<=l.cap/\l.sz≠0/\fz.2<=l.n*l.sz/\Dy E.P l.e=Y l.sz
 HZ:∀t l o,g.tok t=Y l->l.n*l.sz<=o->¬ g.I l.b o
 FD:∀id id' b,g.blk id=Y b->g.blk id'=Y b->id=id'
 Gt:∀t t' l l',g.tok t=Y l->g.tok t'=Y l'->l.b=l'.b->t=t'
 Dc:∀id b t l,g.blk id=Y b->g.tok t=Y l->b≠l.b
 KZ:∀b o,g.I b o->b<w.heap.size
 GF:∀gl row,E.G gl=Y row->∀j c,row[j]?=Y c->∃v,g.I gl j/\w.cell? ⟨gl,j,G⟩=Y v/\VP g.I w c v
 D4:∀gl row,E.G gl=Y row->g.I gl row.length/\w.cell? ⟨gl,row.length,G⟩=G
def Inv.EY {E:Env} {g:AZ} {w:ϙ} {s:AY} (h:Inv E g w s) {id b:Nat} (hb:g.blk id=Y b):b<w.heap.size:=by
 have⟨d,f,e,_,i,_,_⟩:=h.blk id b hb
 grind
def II {w:ϙ} {b:Nat} {o:Obj} (h:w.heap[b]?=Y o):b<w.heap.size:=AB
def Inv.L6 {E:Env} {g:AZ} {w:ϙ} {s:AY} (h:Inv E g w s) {id b:Nat} (hb:g.mp id=Y b):b<w.heap.size:=by
 have⟨_,_,_,d⟩:=h.mp id b hb
 grind
def Inv.zE {E:Env} {g:AZ} {w:ϙ} {s:AY} (h:Inv E g w s) {id b:Nat} (hb:g.mp id=Y b):id<s.bs.length:=by
 have⟨_,_,d,_⟩:=h.mp id b hb
 grind
def Inv.IJ {E:Env} {g:AZ} {w w':ϙ} {s e:AY} (h:Inv E g w s) (hs:∀id b,g.mp id=Y b->e.bs[id]?=s.bs[id]?) (f:∀id b,g.mp id=Y b->w'.heap[b]?=w.heap[b]?) :
  ∀id b,g.mp id=Y b->∃es d,e.bs[id]?=Y [.PZ es d]/\w'.heap[b]?=Y (.map (List.toArray es) d):=λid b hb=>by
 have⟨es,c,i,j⟩:=h.mp id b hb
 grind
def Inv.rJ {E:Env} {g:AZ} {w:ϙ} {s:AY} (h:Inv E g w s) {id d b f:Nat} (hb:g.blk id=Y b) (i:g.mp d=Y f):id≠d:=λe=>by
 have:=(h.Mh d f i).1
 grind
def Inv.mpB {E:Env} {g:AZ} {w:ϙ} {s:AY} (h:Inv E g w s) {id d b:Nat} (hb:g.mp id=Y b):g.blk d≠Y b:=λe=>by
 have⟨_,_,_,f⟩:=h.mp id b hb;have⟨_,_,_,_,i,_⟩:=h.blk d b e
 grind
def Inv.mpT {E:Env} {g:AZ} {w:ϙ} {s:AY} (h:Inv E g w s) {id b:Nat} {t:Nat} {l:Qo} (hb:g.mp id=Y b) (d:g.tok t=Y l):b≠l.b:=λe=>by
 have⟨_,_,_,f⟩:=h.mp id b hb;have⟨_,_,i,_⟩:=h.tok t l d
 grind
def Inv.GM {E:Env} {g:AZ} {w:ϙ} {s:AY} (h:Inv E g w s) {t:Nat} {l:Qo} (d:g.tok t=Y l):l.b<w.heap.size:=by
 have⟨f,e,i,_⟩:=h.tok t l d
 grind
theorem Wt (P:ϟ) {α:Type} (s:Sem α) (a:α) (h:quick P s=Y a) (w:ϙ):s.run P w=.ok a w:=by
 induction s with
 | pure x=>simp_all[quick]
 | program k b=>grind[quick,Sem.run]
 | mark m k b=>grind[quick,Sem.run]
 | load=>grind[quick]
 | store=>grind[quick]
 | new=>grind[quick]
 | shape=>grind[quick]
 | freeze=>grind[quick]
 | frozen=>grind[quick]
 | getObj=>grind[quick]
 | setObj=>grind[quick]
 | choose=>grind[quick]
 | sys=>grind[quick]
 | halt=>grind[quick]
theorem V.Jo {g:AZ} {w:ϙ} (v:ϛ):V g w (Jo v) v:=.pv (.sc v)
def V.DX {g:AZ} {w:ϙ} {u v:ϛ} (h:V g w (.pv (.sc u)) v):v=u:=by cases h with|pv h=>exact h.Jo
def VL.zF {g:AZ} {w:ϙ} (vs:List ϛ):VL g w (vs.map Tel.Jo) vs:=by
 induction vs with
 | nil=>exact .nil
 | cons v vs b=>exact .cons (.Jo v) b
def VL.map {g:AZ} {w:ϙ} {f:ϛ->AV} (hf:∀v,V g w (f v) v) (vs:List ϛ):VL g w (vs.map f) vs:=by
 induction vs with
 | nil=>exact .nil
 | cons v vs b=>grind[cons]
def V.OQ {g:AZ} {w:ϙ} (v:ϛ):V g w (OQ v) v:=by
 unfold Tel.OQ;split
 .rename_i b; have h:=VL.zF (g:=g) (w:=w) b.toList; exact .agg h.len h.at_
 .rename_i d; have h:=VL.zF (g:=g) (w:=w) d.toList; exact .tuple h.len h.at_
 .exact .Jo _
theorem V.IC {g:AZ} {w:ϙ} (v:ϛ):V g w (IC v) v:=by
 unfold Tel.IC;split
 .exact .AE (b:=0) (o:=0) (sz:=0) (f:=λ_ _=>undef) .nil
 .exact .Jo _
def V.ofConst {g:AZ} {w:ϙ} (v:ϛ):V g w (ofConst v) v:=by
 unfold Tel.ofConst;split
 .rename_i b; have h:=VL.map (g:=g) (w:=w) (V.IC) b.toList; exact .agg h.len h.at_
 .rename_i d; have h:=VL.zF (g:=g) (w:=w) d.toList; exact .tuple h.len h.at_
 grind[V.IC]
theorem A9 {g:AZ} {w:ϙ} {U:Nat->AV} {a:Act} (b:∀t,V g w (U t) (a.tmps.getD t undef)) (x:Operand):V g w (A1 U x) (a.eval x):=by
 cases x with
 | tmp t=>exact b t
 | const v=>exact V.ofConst v
 | global d=>exact .EF d 0
 | func f=>exact .func (vs:=[]) (us:=[]) rfl rfl AD AD
theorem V.rK {g:AZ} {w:ϙ} {cs:Ϭ} {vs:List ϛ} (h:VL g w cs vs):V g w (.agg cs) (.agg ⟨vs⟩):=.agg h.len h.at_
theorem V.tuple' {g:AZ} {w:ϙ} {cs:Ϭ} {vs:List ϛ} (h:VL g w cs vs):V g w (.tuple cs) (.tuple ⟨vs⟩):=.tuple h.len h.at_
def V.Yy {g:AZ} {w:ϙ} {cs:Ϭ} {v:ϛ} (h:V g w (.agg cs) v):∃vs,v=.agg ⟨vs⟩/\VL g w cs vs:=by
 cases h with|agg b h=>exact⟨_,rfl,b,h⟩
def V.Qp {g:AZ} {w:ϙ} {cs:Ϭ} {v:ϛ} (h:V g w (.tuple cs) v):∃vs,v=.tuple ⟨vs⟩/\VL g w cs vs:=by
 cases h with|tuple b h=>exact⟨_,rfl,b,h⟩
theorem V.undef {g:AZ} {w:ϙ}:V g w (.tuple []) undef:=V.tuple' .nil
def J3 {g:AZ} {w:ϙ} {c:AV} {v:ϛ} (h:V g w c v) (b:BS c=Z):v.oneCell'=true:=by
 cases h with
 | pv h=>
  cases h with
  | sc v=>cases v <;> assumption
  | list=>rfl
 | agg=>assumption
 | tuple=>assumption
 | ptr|LS|EF|DF|AE|own|ref|Jb|Gy|Hl|func|iface|bz|ql=>rfl
def od {v:ϛ} (h:v.oneCell'=Z):v.cells=#[v]:=by cases v <;> simp_all [Value.cells,Value.oneCell']
def E1 {g:AZ} {w:ϙ} {x:AV} {v:ϛ} (h:V g w x v) (f:(cellsOf x).all BS=Z):VL g w (cellsOf x) v.cells.toList:=by
 cases x with
 | agg i=>
  obtain⟨b,rfl,d⟩:=h.Yy;exact d
 | tuple b=>grind[cellsOf,BS]
 | _=>
  have e:=J3 h (by grind[cellsOf]);rw[od e];exact .cons h .nil
theorem Dl (b o n:Nat):Addr.add ⟨b,o,G⟩ n=⟨b,o+n,G⟩:=by grind[Addr.add]
theorem Pc {P:ϟ} {w:ϙ} {b o:Nat} (us:List ϛ):∀(i:Nat) (acc:Array ϛ),
  (∀(j:Nat) u,us[j]?=Y u->w.cell? ⟨b,o+(i+j),G⟩=Y u) ->
  (loadCellsFrom ⟨b,o,G⟩ i us.length acc).run P w=.ok (acc++us.toArray) w:=by
 induction us with
 | nil=>simp[*,loadCellsFrom]
 | cons u us e=>
  intro i acc h;have d:=h 0 u rfl;simp only[G8] at d;simp only[CP,loadCellsFrom,Sem.run_bind,run_load,Dl,d,Result.andThen_ok];rw[e (i+1) (acc.push u) (λj f k=>by have:=h (j+1) f AB; grind)];simp
theorem E2 {P:ϟ} {w:ϙ} {b o:Nat} (us:List ϛ) (h:∀(j:Nat) u,us[j]?=Y u->w.cell? ⟨b,o+j,G⟩=Y u) :
  (loadCells ⟨b,o,G⟩ us.length).run P w=.ok us.toArray w:=by grind[Pc,loadCells]
def run_underlying {P:ϟ} {w:ϙ} {t:ϝ} {d:TypeDesc} (h:P.underlying t=Y d):(underlying t).run P w=.ok d w:=by
 simp[underlying,h]
def run_typeInfo {P:ϟ} {w:ϙ} {t:ϝ} {i:TypeInfo} (h:P.info? t=Y i):(typeInfo t).run P w=.ok i w:=by
 simp[typeInfo,h]
theorem run_sizeOf {P:ϟ} {w:ϙ} {t:ϝ} {i:TypeInfo} (h:P.info? t=Y i):(sizeOf t).run P w=.ok i.size w:=by
 simp[sizeOf,run_typeInfo h]
def FY {P:ϟ} {t:ϝ} {k:Nat} (h:Dy P t=Y k):∃i,P.info? t=Y i/\i.size=k:=by grind[Dy]
def Yz {P:ϟ} {g:AZ} {w:ϙ} {cs:Ϭ} {us:List ϛ} {b o off:Nat} {t:ϝ} {v:AV}
  (m:VL g w cs us) (A:∀(j:Nat) u,us[j]?=Y u->w.cell? ⟨b,o+j,G⟩=Y u) (f:partOf P t cs off=Y v) :
  ∃y,(Instr.loadAt t (.pointer (Y ⟨b,o+off,G⟩))).run P w=.ok y w/\V g w v y:=by
 unfold partOf at f;split at f
 .rename_i d i C D
  have one:cs[off]?=Y v->∃u,w.cell? ⟨b,o+off,G⟩=Y u/\V g w v u:=by
   intro k;have⟨u,p,r⟩:=m.get k
   grind
  have s:(if off+i.size<=cs.length/\i.size≠0 then Y (AV.agg ((cs.drop off).take i.size)) else G)=Y v ->
    ∃l,(loadCells ⟨b,o+off,G⟩ i.size).run P w=.ok (List.toArray l) w/\V g w v (.agg ⟨l⟩):=by
   intro k;split at k
   .rename_i x
    have x:=x.1;simp at k; subst k;have z:=(m.drop off).take i.size;refine⟨_,?_,V.rK z⟩
    have B:((us.drop off).take i.size).length=i.size:=by
     have:=m.len
     grind
    grind[E2]
   grind
  cases d with
  | struct fs=>
   have⟨l,p,r⟩:=s f;simp[*,Instr.loadAt,Instr.sureAddr,loadVar,isAgg,run_underlying,run_sizeOf]
  | array n e=>
   have⟨l,p,r⟩:=s f;simp[*,Instr.loadAt,Instr.sureAddr,loadVar,isAgg,run_underlying,run_sizeOf]
  | _=>
   have⟨u,p,r⟩:=one f;simp[*,Instr.loadAt,Instr.sureAddr,loadVar,isAgg,run_underlying]
 grind
theorem CI {w:ϙ} {b o:Nat} {vs:List ϛ} {e:ϝ} {d:Nat×Nat} (h:w.heap[b]?=Y (.cells ⟨vs⟩ e d)):w.cell? ⟨b,o,G⟩=vs[o]?:=by grind[World.cell?]
def kr {g:AZ} {w:ϙ} {row:Ϧ} {f:Nat->ϛ} (h:∀(j:Nat) c,row[j]?=Y c->VP g.I w c (f j)) :
  VL g w (row.map .pv) ((List.range row.length).map f):=by
 refine⟨AD,λi c v b d=>?_⟩;rw[E8] at b;cases e:row[i]? with
 | none=>grind
 | some p=>
  simp[e] at b; subst b;have k:i<row.length:=AB;simp[E8,Sj k] at d;subst d;exact .pv (h i p e)
theorem fq {P:ϟ} {t:ϝ} {off:Nat} (v:AV):partOf P t [] off≠Y v:=by grind[partOf]
def Mw {E:Env} {g:AZ} {w:ϙ} {s:AY} (l:Inv E g w s) {t:ϝ} {x v:AV} {A:ϛ} (hx:V g w x A) (h:TQ E s t x=Y v) :
  ∃B,(Instr.loadAt t A).run E.P w=.ok B w/\V g w v B:=by
 unfold TQ at h;split at h
 .rename_i id r
  split at h
  .rename_i O y
   cases hx with
   | @ptr _ _ b hb=>
    have⟨M,Q,e,m,S,N,H⟩:=l.blk id b hb;simp only[Ro] at y;rw[y] at m; simp at m; subst m;have:=Yz (P:=E.P) (b:=b) (o:=0) H (λj u i=>by grind[CI]) h
    grind
   | LS K=>
    have:=l.D3 id K
    grind[Ro,fq]
  grind
 .rename_i k r
  split at h
  .rename_i d D
   cases hx with
   | EF=>
    have T:=l.GF k d D
    have z:∀j,∃v,∀c,d[j]?=Y c->g.I k j/\w.cell? ⟨k,j,G⟩=Y v/\VP g.I w c v:=by
     intro j;cases i:d[j]? with
     | none=>simp
     | some c=>
      simp[*]
    have hf:=λj=>Classical.choose_spec (z j)
    have n:=kr (g:=g) (w:=w) (row:=d) (f:=λj=>Classical.choose (z j)) (λj c p=>(hf j c p).2.2)
    have:=Yz (P:=E.P) (b:=k) (o:=0) n (λj u i=>by
     have C:j<d.length:=AB;simp[E8,Sj C] at i;subst i;have:=(hf j d[j] AD).2.1
     grind) h
    grind
  grind
 .rename_i d r
  cases hx with
  | @DF _ b o _ f L=>
   have n:=kr (g:=g) (w:=w) (row:=d) (f:=f) (λj c p=>(L j c p).2.2)
   exact Yz (P:=E.P) (b:=b) (o:=o) n (λj u i=>by
    have C:j<d.length:=AB
    simp_all) h
 grind
def Y0 {P:ϟ} {g:AZ} {w:ϙ} {cs:Ϭ} {us:List ϛ} {off:Nat} {t:ϝ} {v:AV}
  (j:VL g w cs us) (f:partOf P t cs off=Y v):∃k,(part t ⟨us⟩ off).run P w=.ok k w/\V g w v k:=by
 unfold partOf at f;split at f
 .rename_i d i m o
  have one:cs[off]?=Y v->∃u,us[off]?=Y u/\V g w v u:=λb=>j.get b
  have l:(if off+i.size<=cs.length/\i.size≠0 then Y (AV.agg ((cs.drop off).take i.size)) else G)=Y v->V g w v (.agg ((⟨us⟩:Array ϛ).extract off (off+i.size))):=by
   intro b;split at b
   .simp at b; subst b
    have p:=(j.drop off).take i.size
    grind[V.rK]
   grind
  cases d with
  | struct fs=>simp_all[part,isAgg,run_underlying,run_sizeOf]
  | array n e=>simp_all[part,isAgg,run_underlying,run_sizeOf]
  | _=>
   have⟨u,r,s⟩:=one f;simp[*,part,isAgg,run_underlying]
 grind
def Ca (vs:List ϛ) (k:Nat):List ϛ->List ϛ
 | []=>vs
 | u::us=>Ca (vs.set k u) (k+1) us
theorem B8 (us:List ϛ):∀(vs:List ϛ) (k:Nat),(Ca vs k us).length=vs.length:=by
 induction us with
 | nil=>intro vs k; rfl
 | cons u us b=>grind[Ca]
theorem Fi (us:Ϭ):∀(vs:Ϭ) (k:Nat),(setCells vs k us).length=vs.length:=by
 induction us with
 | nil=>intro vs k; rfl
 | cons u us b=>grind[setCells]
theorem VL.setCells {g:AZ} {w:ϙ} {us:Ϭ}:∀{cs:Ϭ} {vs b:List ϛ} (k:Nat),VL g w cs vs->VL g w us b->VL g w (setCells cs k us) (Ca vs k b):=by
 induction us with
 | nil=>intro cs vs b k d e; rw[e.Fb]; exact d
 | cons u us f=>
  intro cs vs b k d e;obtain⟨x,l,rfl,i,j⟩:=e.cases;exact f (k+1) (d.set k i) j
def Bd (w:ϙ) (b:Nat) (vs:List ϛ) (e:ϝ) (d:Nat×Nat:=(0,0)):ϙ:={ w with heap:=w.heap.setIfInBounds b (.cells ⟨vs⟩ e d) }
theorem Bv (w:ϙ) (b:Nat) (vs:List ϛ) (e:ϝ) (k:Nat) {d:Nat×Nat} :
  (Bd w b vs e d).heap[k]?=if b=k then(if k<w.heap.size then Y (.cells ⟨vs⟩ e d) else G) else w.heap[k]?:=by grind[Bd]
def DI {α:Type} {l:Array α} {i:Nat} {x:α} (h:l[i]?=Y x):i<l.size:=AB
def DY {α:Type} {l:List α} {i:Nat} {x:α} (h:l[i]?=Y x):i<l.length:=AB
def Jp {w w':ϙ} (b:w.heap=w'.heap) (d:w.tape=w'.tape) (e:w.drawn=w'.drawn) (f:w.os=w'.os) (i:w.output=w'.output):w=w':=by
 cases w; simp_all
theorem L7 {w:ϙ} {b:Nat} {vs:List ϛ} {e:ϝ} {d:Nat×Nat} (h:w.heap[b]?=Y (.cells ⟨vs⟩ e d)):Bd w b vs e d=w:=by
 refine Jp ?_ rfl rfl rfl rfl;apply Sk
 grind[Bv]
def bA {w:ϙ} {b o:Nat} {vs:List ϛ} {e:ϝ} {v:ϛ} {d:Nat×Nat} (h:w.heap[b]?=Y (.cells ⟨vs⟩ e d)) :
  w.setCell ⟨b,o,G⟩ v=Bd w b (vs.set o v) e d:=by
 refine Jp ?_ rfl rfl rfl rfl;apply Sk
 grind[Bv,World.setCell]
theorem Er {w:ϙ} {b:Nat} {vs us:List ϛ} {e:ϝ} {d:Nat×Nat}:Bd (Bd w b vs e d) b us e d=Bd w b us e d:=by
 simp[Bd]
def Fj {P:ϟ} {b o:Nat} {e:ϝ} {d:Nat×Nat} (n:d.2<=o) (us:List ϛ):∀(i:Nat) (w:ϙ) (vs:List ϛ),(∀u∈us,u.oneCell'=Z) ->
  w.heap[b]?=Y (.cells ⟨vs⟩ e d)->o+i+us.length<=vs.length ->
  (storeCells ⟨b,o,G⟩ us i).run P w=.ok () (Bd w b (Ca vs (o+i) us) e d):=by
 induction us with
 | nil=>simp_all[storeCells,Ca,L7]
 | cons u us k=>
  intro i w vs f h j;simp only[CP] at j;have l:w.cell? ⟨b,o+i,G⟩=Y vs[o+i]:=by rw[CI h]; simp
  have hf:w.frozen? ⟨b,o+i,G⟩=false:=by grind[World.frozen?]
  simp only[storeCells,Sem.run_bind,Dl];rw[run_store _ _ _ _ _ (f u AD)];simp only[l,hf,Result.andThen_ok,Dj,JP];rw[bA h];have m:(Bd w b (vs.set (o+i) u) e d).heap[b]?=Y (.cells ⟨vs.set (o+i) u⟩ e d):=by grind[Bv]
  rw[k (i+1) _ (vs.set (o+i) u) (λx hx=>f x AB) m AB,Er];rfl
def GN {P:ϟ} {b o:Nat} {e:ϝ} (us:List ϛ) (i:Nat) (w:ϙ) (vs:List ϛ) (f:∀u∈us,u.oneCell'=Z)
  (h:w.heap[b]?=Y (.cells ⟨vs⟩ e (0,0))) (d:o+i+us.length<=vs.length) :
  (storeCells ⟨b,o,G⟩ us i).run P w=.ok () (Bd w b (Ca vs (o+i) us) e):=Fj (AO o) us i w vs f h d
theorem Cg {w w':ϙ} {b:Nat} (h:w'.heap[b]?=w.heap[b]?) (o:Nat):w'.cell? ⟨b,o,G⟩=w.cell? ⟨b,o,G⟩:=by grind[World.cell?]
theorem CM {w:ϙ} {b:Nat} {vs:List ϛ} {e:ϝ} {d:Nat×Nat} (h:w.heap[b]?=Y (.cells ⟨vs⟩ e d)):w.shape? b=Y (e,vs.length):=by grind[World.shape?]
def Inv.putRow {E:Env} {L:Ba} {g:AZ} {w:ϙ} {s:AY} (h:Inv E g w s) {id b:Nat} {cs':Ϭ} {vs vs':List ϛ} {e:ϝ}
  (hb:g.blk id=Y b) (C:w.heap[b]?=Y (.cells ⟨vs⟩ e (0,0))) (A:vs'.length=vs.length) (N:L.ro<=id) (hle:cs'.length<=vs'.length) (hl:VL g w cs' (vs'.take cs'.length)) :
  Ext L g w g (Bd w b vs' e)/\Inv E g (Bd w b vs' e) { s with bs:=s.bs.set id cs' }:=by
 have O:=h.EY hb;have p:∀k,k≠b->(Bd w b vs' e).heap[k]?=w.heap[k]?:=λk f=>by grind[Bv]
 have qm:(Bd w b vs' e).heap[b]?=Y (.cells ⟨vs'⟩ e (0,0)):=by grind[Bv]
 have B:(Bd w b vs' e).heap.size=w.heap.size:=by simp[Bd]
 have ext:Ext L g w g (Bd w b vs' e):={
  os:=rfl,tape:=rfl,output:=rfl,size:=AA
  mono:=λ_ _ n=>n
  cell:=λk o n=>Cg (p k (λf=>h.GL id b o hb (f ▸ n))) o
  blk:=λ_ _ n=>.inl n
  dead:=λ_ n=>n
  shape:=λd i m _=>by
   by_cases f:i=b
   .subst f; rw[CM qm,CM C,A]
   grind[EA]
  tok:=λ_ l hl=>⟨l,hl,.inl rfl⟩
  GK:=λd i m M=>⟨m,p i (λf=>by subst f; have:=h.FD id d i hb m; omega)⟩
  F5:=λt l hl _=>⟨hl,p _ (λf=>h.Dc id b t l hb hl f.symm),λ_ r=>r⟩
  out:=λk _ h1 _ _=>⟨p k (λf=>h1 id (f ▸ hb)),λ_ r=>r⟩
  mp:=λ_ _ hb=>hb
  F6:=λ_ i m=>⟨λ_=>p i (λf=>h.mpB m (f ▸ hb)),λ_ r=>r⟩
  K4:=λd _ hb _=>⟨d,hb⟩
  HY:=λd _ hb _=>⟨d,hb⟩
  Db:=λ_ h=>h
  K5:=λ_ l hl _=>⟨l,hl,rfl⟩ }
 refine⟨ext,?_⟩
 exact {
  FC:=λd i m=>by simpa using h.FC d i m
  EB:=λd u=>by simpa using h.EB d u
  D3:=λd u=>by
   have hid:id≠d:=λe=>by subst e; have:=g.hd _ u; grind
   simp only[Ge hid]; exact h.D3 d u
  blk:=λd i m=>by
   by_cases hid:d=id
   .subst hid
    have:i=b:=AB;subst this;exact⟨cs',vs',e,by simp[h.FC _ _ hb],qm,hle,hl.mono ext⟩
   .have⟨D,us,e',h1,h2,h3,H⟩:=h.blk d i m
    exact⟨D,us,e',AB,by rw[p i (λf=>hid (h.FD d id i m (f ▸ hb)))]; omega,h3,H.mono ext⟩
  GL:=h.GL
  HH:=h.HH
  HI:=h.HI
  tok:=λt l hl=>by
   have⟨us,e',h1,h2⟩:=h.tok t l hl
   grind
  HZ:=h.HZ
  FD:=h.FD
  Gt:=h.Gt
  Dc:=h.Dc
  KZ:=λk o n=>by rw[B]; exact h.KZ k o n
  Ev:=λid hid=>h.Ev id AB
  mp:=h.IJ (λd i m=>Ge (h.rJ hb m)) (λd i m=>p i (λf=>h.mpB m (f ▸ hb)))
  Mh:=h.Mh
  Hy:=h.Hy
  EJ:=λid I=>by have⟨a,b,c⟩:=h.EJ id I; grind
  GF:=λy x z j c K=>by
   have⟨v,h1,h2,h3⟩:=h.GF y x z j c K;exact⟨v,h1,by rw[ext.cell _ _ h1]; omega,h3.mono ext.mono ext.cell⟩
  D4:=λy x z=>by
   have⟨h1,h2⟩:=h.D4 y x z;exact⟨h1,by rw[ext.cell _ _ h1]; omega⟩ }
theorem Wu (us:List ϛ):∀(vs:List ϛ) (k n:Nat),(Ca vs k us).take n=Ca (vs.take n) k us:=by
 induction us with
 | nil=>intro vs k n; rfl
 | cons u us b=>
  grind[Ca,List.take_set]
def Y1 {E:Env} {L:Ba} {g:AZ} {w:ϙ} {s n:AY} (k:Inv E g w s) {t:ϝ} {a x:AV} {p d:ϛ}
  (B:V g w a p) (hx:V g w x d) (h:Og E L s t a x=Y n) :
  ∃w',(Instr.storeAt t p d).run E.P w=.ok () w'/\Ext L g w g w'/\Inv E g w' n:=by
 unfold Og at h;split at h
 .rename_i id f i C
  split at h
  .rename_i D m
   simp only at h;split at h
   .rename_i H
    obtain⟨T,U,I,K,_,O⟩:=H;simp at h; subst h;simp only[Ro] at m;cases B with
    | LS M=>
     have:=k.D3 id M
     grind
    | @ptr _ _ b hb=>
     have⟨Q,r,e,k1,k2,S,k3⟩:=k.blk id b hb;rw[m] at k1; simp at k1; subst k1;have l:=E1 hx K
     have y:∀u∈d.cells.toList,u.oneCell'=true:=by
      intro u N;obtain⟨j,W,rfl⟩:=Nf.1 N;have A:j<(cellsOf x).length:=by rw[l.len]; omega
      exact J3 (l.at_ j (cellsOf x)[j] _ (by simp[A]) AD) AB
     have z:d.cells.size=i.size:=by rw[<-IZ,<-l.len]; omega
     refine⟨_,?_,(k.putRow (vs':=Ca r f d.cells.toList) (cs':=setCells D f (cellsOf x)) hb k2 (B8 _ _ _) I (by grind[Fi,B8]) (by grind[Fi,Wu,VL.setCells]))⟩;simp only[Instr.storeAt,Instr.sureAddr,storeVar,Sem.run_bind,Sem.run_pure,Result.andThen_ok,run_sizeOf C,z,ne_eq,not_true_eq_false,JP];have:=GN (P:=E.P) (b:=b) (o:=f) (e:=e) d.cells.toList 0 w r y k2 AB;omega
   grind
  grind
 grind
def VL.full {g:AZ} {w:ϙ} {cs:Ϭ} {vs:List ϛ} (h:VL g w cs vs):cs.length<=vs.length/\VL g w cs (vs.take cs.length):=
 ⟨by rw[h.len]; simp,by rw[h.len,Lu]; exact h⟩
def Cy (w:ϙ) (vs:List ϛ) (e:ϝ):ϙ:={ w with heap:=w.heap.push (.cells ⟨vs⟩ e (0,0)) }
theorem Cb (w:ϙ) (vs:List ϛ) (e:ϝ) (k:Nat) :
  (Cy w vs e).heap[k]?=if k=w.heap.size then Y (.cells ⟨vs⟩ e (0,0)) else w.heap[k]?:=by grind[Cy]
theorem BW {w:ϙ} {vs:List ϛ} {e:ϝ} {k:Nat} (h:k<w.heap.size):(Cy w vs e).heap[k]?=w.heap[k]?:=by grind[Cb]
def AZ.GO (g:AZ) (id b:Nat) (h:¬ g.dead id):AZ:={ g with blk:=λi=>if i=id then Y b else g.blk i,hd:=λi d=>(if_neg (λe:i=id=>h (e ▸ d))).trans (g.hd i d) }
def AZ.rL (g:AZ) (J:Nat->Nat->Prop):AZ:={ g with I:=λb o=>g.I b o\/J b o }
def Inv.fresh {E:Env} {g:AZ} {w:ϙ} {s:AY} (h:Inv E g w s):¬ g.dead s.bs.length:=λb=>by have:=h.EB _ b; omega
def Inv.ALf {E:Env} {g:AZ} {w:ϙ} {s:AY} {r:Ϭ} {t:ϝ} {b:Nat} (h:Inv E g w { s with bs:=s.bs++[.pv (.sc (.pointer G))::r] }) (hb:g.blk s.bs.length=Y b)
  (hs:w.shape? b=Y (t,r.length+1)):Inv E g w { s with bs:=s.bs++[.bz s.bs.length t (r.length+1)::r] }:=by
 have l:∀(i:Nat) (a c:Ϭ),i≠s.bs.length->(s.bs++[a])[i]?=(s.bs++[c])[i]?:=λi a c n=>by grind
 exact {
  FC:=λid d f=>by have:=h.FC id d f; grind
  EB:=λid j=>by have:=h.EB id j; grind
  blk:=λid d f=>by
   have⟨o,vs,e,h1,h2,h3,k⟩:=h.blk id d f
   by_cases hid:id=s.bs.length
   .subst hid
    have:d=b:=AB;subst this;simp at h1;subst h1;refine⟨.bz s.bs.length t (r.length+1)::r,vs,e,AD,h2,AA,?_⟩;cases vs with
    | nil=>grind
    | cons u us=>
     simp only[CP,List.take_succ_cons] at k ⊢;have:=k.head.DX;subst this;exact .cons (.bz hb hs) k.tail
   grind
  GL:=h.GL
  D3:=λid j=>by
   have hid:id≠s.bs.length:=λe=>by have:=g.hd id j; grind
   exact(l id _ _ hid).trans (h.D3 id j)
  EJ:=λid m=>by have⟨a,c⟩:=h.EJ id m; grind
  Ev:=λid hid=>h.Ev id AB
  mp:=h.IJ (λid d f=>l id _ _ λe=>by have:=(h.Mh id d f).1; grind) (λ_ _ _=>rfl)
  Mh:=h.Mh
  Hy:=h.Hy
  HH:=h.HH,HI:=h.HI,tok:=h.tok,HZ:=h.HZ,FD:=h.FD,Gt:=h.Gt,Dc:=h.Dc,KZ:=h.KZ
  GF:=h.GF
  D4:=h.D4 }
def Inv.OS {E:Env} {g:AZ} {w:ϙ} {s:AY} {z:Ϭ} {t:ϝ} {b:Nat} (h:Inv E g w { s with bs:=s.bs++[z] }) (hb:g.blk s.bs.length=Y b) (hs:w.shape? b=Y (t,z.length)) :
  Inv E g w { s with bs:=s.bs++[Tel.OS E s.bs.length t z] }:=by
 unfold Tel.OS;cases E.bz t with
 | false=>exact h
 | true=>
  simp only[AQ];split
  .exact h.ALf hb AA
  omega
def Inv.TV {E:Env} {L:Ba} {g:AZ} {w:ϙ} {s:AY} (h:Inv E g w s) {cs:Ϭ} {vs:List ϛ} (e:ϝ) (hle:cs.length<=vs.length) (hl:VL g w cs (vs.take cs.length)) :
  Ext L g w (g.GO s.bs.length w.heap.size h.fresh) (Cy w vs e)/\Inv E (g.GO s.bs.length w.heap.size h.fresh) (Cy w vs e) { s with bs:=s.bs++[cs] }:=by
 have y:(Cy w vs e).heap.size=w.heap.size+1:=by simp[Cy]
 have N:∀id b,g.blk id=Y b->id≠s.bs.length:=λid b hb=>Yc (h.FC id b hb)
 have u:∀id b,g.blk id=Y b->(g.GO s.bs.length w.heap.size h.fresh).blk id=Y b:=λid b hb=>by grind[AZ.GO]
 have inv:∀id b,(g.GO s.bs.length w.heap.size h.fresh).blk id=Y b->(id=s.bs.length/\b=w.heap.size)\/g.blk id=Y b:=λid b hb=>by grind[AZ.GO]
 have ext:Ext L g w (g.GO s.bs.length w.heap.size h.fresh) (Cy w vs e):={
  os:=rfl,tape:=rfl,output:=rfl,size:=AA
  mono:=λ_ _ d=>d
  cell:=λk o d=>Cg (BW (h.KZ k o d)) o
  blk:=λid b hb=>.inl (u id b hb)
  dead:=λ_ i=>i
  shape:=λid b hb _=>EA (BW (h.EY hb))
  tok:=λ_ l hl=>⟨l,hl,.inl rfl⟩
  GK:=λid b hb _=>⟨u id b hb,BW (h.EY hb)⟩
  F5:=λt l hl _=>⟨hl,BW (h.GM hl),λ_ m=>m⟩
  out:=λk A _ _ _=>⟨BW A,λ_ m=>m⟩
  mp:=λ_ _ hb=>hb
  F6:=λ_ x hb'=>⟨λ_=>BW (h.L6 hb'),λ_ m=>m⟩
  K4:=λf _ hb _=>⟨f,hb⟩
  HY:=λid b hb O=>by grind
  Db:=λ_ h=>h
  K5:=λ_ l hl _=>⟨l,hl,rfl⟩ }
 refine⟨ext,?_⟩
 exact {
  FC:=λid b hb=>by
   rcases inv id b hb with ⟨rfl,_⟩|hb
   .simp
   .have:=h.FC id b hb; grind
  EB:=λid i=>by have:=h.EB id i; grind
  D3:=λid i=>by rw[C3 (h.EB id i)]; exact h.D3 id i
  blk:=λid b hb=>by
   rcases inv id b hb with ⟨rfl,rfl⟩|hb
   .exact⟨cs,vs,e,AD,by grind[Cb],hle,hl.mono ext⟩
   .have⟨z,us,e',h1,h2,h3,B⟩:=h.blk id b hb
    exact⟨z,us,e',AB,by grind[BW],h3,B.mono ext⟩
  GL:=λid b o hb d=>by
   rcases inv id b hb with ⟨_,rfl⟩|hb
   .have:=h.KZ _ o d; omega
   .exact h.GL id b o hb d
  HH:=h.HH
  HI:=h.HI
  tok:=λt l hl=>by
   have⟨us,e',h1,h2⟩:=h.tok t l hl
   grind[BW]
  HZ:=h.HZ
  FD:=λid f b hb hb'=>by
   rcases inv id b hb with ⟨C,rfl⟩|hb
   .rcases inv f _ hb' with ⟨D,_⟩|hb'
    .rw[C,D]
    .have:=h.EY hb'; omega
   .rcases inv f b hb' with ⟨_,rfl⟩|hb'
    .have:=h.EY hb; omega
    .exact h.FD id f b hb hb'
  Gt:=h.Gt
  Dc:=λid b t l hb hl=>by
   rcases inv id b hb with ⟨_,rfl⟩|hb
   .have:=h.GM hl; omega
   .exact h.Dc id b t l hb hl
  KZ:=λk o d=>by rw[y]; have:=h.KZ k o d; omega
  Ev:=λid hid=>by
   by_cases e:id=s.bs.length
   .exact .inl ⟨_,if_pos e⟩
   .rcases h.Ev id AB with ⟨b,hb⟩|q
    .grind
    .exact .inr q
  mp:=h.IJ (λf x hb'=>C3 (h.zE hb')) (λf x hb'=>BW (h.L6 hb'))
  Mh:=λid b hb=>by
   have⟨H,a2,I⟩:=h.Mh id b hb;exact⟨(if_neg (Yc (h.zE hb))).trans H,a2,I⟩
  Hy:=h.Hy
  EJ:=λid K=>by
   have⟨a,b,c⟩:=h.EJ id K;exact⟨AB,(if_neg AA).trans b,c⟩
  GF:=λp n r j c M=>by
   have⟨v,h1,h2,h3⟩:=h.GF p n r j c M;exact⟨v,h1,by rw[ext.cell _ _ h1]; omega,h3.mono ext.mono ext.cell⟩
  D4:=λp n r=>by
   have⟨h1,h2⟩:=h.D4 p n r;exact⟨h1,by rw[ext.cell _ _ h1]; omega⟩ }
def Mk (w:ϙ) (o:Obj):ϙ:={ w with heap:=w.heap.push o }
theorem oe (w:ϙ) (o:Obj) (k:Nat):(Mk w o).heap[k]?=if k=w.heap.size then Y o else w.heap[k]?:=by grind[Mk]
theorem CW {w:ϙ} {o:Obj} {k:Nat} (h:k<w.heap.size):(Mk w o).heap[k]?=w.heap[k]?:=by grind[oe]
def Inv.ku {E:Env} {L:Ba} {g:AZ} {w:ϙ} {s:AY} (h:Inv E g w s) (o:Obj) :
  Ext L g w (g.rL λb _=>b=w.heap.size) (Mk w o)/\Inv E (g.rL λb _=>b=w.heap.size) (Mk w o) s:=by
 have p:(Mk w o).heap.size=w.heap.size+1:=by simp[Mk]
 have ext:Ext L g w (g.rL λb _=>b=w.heap.size) (Mk w o):={
  os:=rfl,tape:=rfl,output:=rfl,size:=AA
  mono:=λ_ _ hi=>.inl hi
  cell:=λk o hi=>Cg (CW (h.KZ k o hi)) o
  blk:=λ_ _ hb=>.inl hb
  dead:=λ_ y=>y
  shape:=λid b hb _=>EA (CW (h.EY hb))
  tok:=λ_ l hl=>⟨l,hl,.inl rfl⟩
  GK:=λid b hb _=>⟨hb,CW (h.EY hb)⟩
  F5:=λt l hl _=>⟨hl,CW (h.GM hl),λo d=>d.resolve_right (λe=>by have:=h.GM hl; omega)⟩
  out:=λk z _ _ _=>⟨CW z,λo d=>d.resolve_right (λe=>by omega)⟩
  mp:=λ_ _ hb=>hb
  F6:=λ_ C f=>⟨λ_=>CW (h.L6 f),λo d=>d.resolve_right (λe=>by have:=h.L6 f; omega)⟩
  K4:=λr _ hb _=>⟨r,hb⟩
  HY:=λid _ hb _=>⟨id,hb⟩
  Db:=λ_ h=>h
  K5:=λ_ l hl _=>⟨l,hl,rfl⟩ }
 refine⟨ext,?_⟩
 exact {
  FC:=h.FC
  EB:=h.EB
  D3:=h.D3
  blk:=λid b hb=>by
   have⟨u,us,e',h1,h2,h3,A⟩:=h.blk id b hb;exact⟨u,us,e',h1,by grind[CW],h3,A.mono ext⟩
  GL:=λid b o hb hi=>by
   rcases hi with hi|hi
   .exact h.GL id b o hb hi
   .have:=h.EY hb; omega
  HH:=h.HH
  HI:=h.HI
  tok:=λt l hl=>by
   have⟨us,e',h1,h2⟩:=h.tok t l hl
   grind[CW]
  HZ:=λt l o hl x hi=>by
   rcases hi with hi|hi
   .exact h.HZ t l o hl x hi
   .have:=h.GM hl; omega
  FD:=h.FD
  Gt:=h.Gt
  Dc:=h.Dc
  KZ:=λk o hi=>by
   rw[p];rcases hi with hi|hi
   .have:=h.KZ k o hi; omega
   omega
  Ev:=h.Ev
  mp:=h.IJ (λ_ _ _=>rfl) (λ_ _ f=>CW (h.L6 f))
  Mh:=h.Mh
  Hy:=h.Hy
  EJ:=h.EJ
  GF:=λm i n j c B=>by
   have⟨v,h1,h2,h3⟩:=h.GF m i n j c B;exact⟨v,.inl h1,by rw[ext.cell _ _ h1]; omega,h3.mono ext.mono ext.cell⟩
  D4:=λm i n=>by
   have⟨h1,h2⟩:=h.D4 m i n;exact⟨.inl h1,by rw[ext.cell _ _ h1]; omega⟩ }
def Inv.ALg {E:Env} {L:Ba} {g:AZ} {w:ϙ} {s:AY} (h:Inv E g w s) (vs:List ϛ) (e:ϝ) :
  Ext L g w (g.rL λb _=>b=w.heap.size) (Cy w vs e)/\Inv E (g.rL λb _=>b=w.heap.size) (Cy w vs e) s:=h.ku _
def rM (us:List ϛ):∀(vs:List ϛ) (off j:Nat),
  ((us.toArray.zipIdx j).foldl (λ(cs:Array ϛ) (p:ϛ×Nat)=>cs.setIfInBounds (off+p.2) p.1) ⟨vs⟩)=⟨Ca vs (off+j) us⟩:=by
 induction us with
 | nil=>grind[Ca]
 | cons u us b=>
  intro vs off j;have:=b (vs.set (off+j) u) off (j+1)
  grind[List.zipIdx_cons,Ca]
def Oj {g:AZ} {w:ϙ} {place:Nat->Option (Nat×Nat)} (parts:List (Nat×AV)):∀{ps:List (Nat×ϛ)} {cs cs':Ϭ} {vs:List ϛ},
  parts.map (·.1)=ps.map (·.1)->(∀(i:Nat) (p:Nat×AV) (q:Nat×ϛ),parts[i]?=Y p->ps[i]?=Y q->V g w p.2 q.2)->VL g w cs vs ->
  Mf place cs parts=Y cs'->∃vs',Instr.fill place ⟨vs⟩ ps=Y ⟨vs'⟩/\VL g w cs' vs':=by
 induction parts with
 | nil=>
  intro ps cs cs' vs b _ d h;have:ps=[]:=HG;subst this;simp[Mf] at h; subst h;exact⟨vs,rfl,d⟩
 | cons p parts s=>
  intro ps cs cs' vs b k d h;cases ps with
  | nil=>grind
  | cons q ps=>
   obtain⟨i,x⟩:=p;obtain⟨A,y⟩:=q;simp at b;obtain⟨rfl,b⟩:=b;simp only[Mf] at h;simp only[Instr.fill];cases l:place i with
   | none=>grind
   | some t=>
    obtain⟨f,size⟩:=t;simp only[l] at h;split at h
    .rename_i hn
     obtain⟨B,C,n⟩:=hn;have o:V g w x y:=k 0 (i,x) (i,y) rfl rfl;have m:=E1 o n;have u:y.cells.size=(cellsOf x).length:=by rw[m.len]; simp
     have z:=d.len;have r:(decide (y.cells.size≠size)||decide (f+y.cells.size>(⟨vs⟩:Array ϛ).size))=false:=AB;simp only[r,Dj,JP];have e:=rM y.cells.toList vs f 0;simp only[Hi,G8] at e;rw[e];exact s b (λj p q l D=>k (j+1) p q AB AB) (VL.setCells f d m) h
    grind
def ET {P:ϟ} {g:AZ} {w:ϙ} {t:ϝ} {z:Ϭ} (h:zeroOf P t=Y z) :
  ∃i v,P.info? t=Y i/\i.zero=Y v/\(zeroValue t).run P w=.ok v w/\VL g w z v.cells.toList:=by
 unfold zeroOf at h;split at h
 .rename_i i b
  split at h
  .rename_i v d
   simp at h; subst h;refine⟨i,v,b,d,by simp[*,zeroValue,run_typeInfo],?_⟩;cases v with
   | agg e=>exact VL.map V.IC e.toList
   | tuple f=>exact .cons (V.tuple' (VL.zF f.toList)) .nil
   | slice a n c=>
    have:cellsOf (ofConst (.slice a n c))=[IC (.slice a n c)]:=by
     simp only[ofConst,IC];split <;> rfl
    rw[this];exact .cons (V.IC _) .nil
   | _=>exact .cons (V.Jo _) .nil
  grind
 grind
def Wv {g:AZ} {w:ϙ} {U:Nat->AV} {a:Act} (b:∀t,V g w (U t) (a.tmps.getD t undef)) (parts:Array (Nat×Operand)) :
  (parts.toList.map λp=>(p.1,A1 U p.2)).map (·.1)=((parts.map λ(i,x)=>(i,a.eval x)).toList).map (·.1) /\
  ∀(i:Nat) p q,(parts.toList.map λp=>(p.1,A1 U p.2))[i]?=Y p->((parts.map λ(i,x)=>(i,a.eval x)).toList)[i]?=Y q->V g w p.2 q.2:=by
 constructor
 .simp
 grind[A9]
structure Flat (I:Nat->Nat->Prop) (w:ϙ) (rows:Ϯ) (sz:Nat) (us:List ϛ):Prop where
 len:us.length=rows.length*sz
 hsz:∀row∈rows,row.length=sz
 at_:∀i row j c,rows[i]?=Y row->row[j]?=Y c->∃u,us[i*sz+j]?=Y u/\VP I w c u
theorem Flat.mono {I d:Nat->Nat->Prop} {w w':ϙ} (f:∀b o,I b o->d b o) (k:∀b o,I b o->w'.cell? ⟨b,o,G⟩=w.cell? ⟨b,o,G⟩)
  {rows:Ϯ} {sz:Nat} {us:List ϛ} (h:Flat I w rows sz us):Flat d w' rows sz us:=
 ⟨h.len,h.hsz,λi e j c l m=>by have⟨u,n,p⟩:=h.at_ i e j c l m; exact⟨u,n,p.mono f k⟩⟩
def Flat.append {I:Nat->Nat->Prop} {w:ϙ} {rows d:Ϯ} {sz:Nat} {us f:List ϛ} (h:Flat I w rows sz us) (k:Flat I w d sz f) :
  Flat I w (rows++d) sz (us++f):=by
 refine⟨by simp[h.len,k.len,DM],λb hr=>?_,λi b j c hr l=>?_⟩
 .rcases CU.1 hr with hr|hr
  .exact h.hsz b hr
  .exact k.hsz b hr
 .rcases Fv i rows.length with hi|hi
  .rw[C3 hi] at hr
   have⟨u,n,m⟩:=h.at_ i b j c hr l
   grind
  .rw[Ei hi] at hr
   have⟨u,n,m⟩:=k.at_ _ b j c hr l;refine⟨u,?_,m⟩
   have e:i*sz=us.length+(i-rows.length)*sz:=by
    rw[h.len,<-DM]; grind
   grind
def Flat.fy {I:Nat->Nat->Prop} {w:ϙ} {rows:Ϯ} {sz:Nat} {us:List ϛ} (h:Flat I w rows sz us) {b o:Nat}
  (l:∀q,q<us.length->I b (o+q)) (m:∀q u,us[q]?=Y u->w.cell? ⟨b,o+q,G⟩=Y u) :
  Em I w rows (Y ⟨b,o,G⟩) b o sz (λi j=>(us[i*sz+j]?).getD undef):=by
 refine⟨h.hsz,λ_ _=>rfl,λi d j c e f=>?_,λi d j c e f=>?_⟩
 .have⟨u,k,_⟩:=h.at_ i d j c e f
  grind
 .have⟨u,k,n⟩:=h.at_ i d j c e f
  grind
def gA {i sz j:Nat} (h:j<sz):(i*sz+j) / sz=i/\(i*sz+j) % sz=j:=by grind[Nat.mul_comm,Nat.mul_add_div,Nat.div_eq_of_lt,Nat.mul_add_mod,Nat.mod_eq_of_lt]
def Em.flat {I:Nat->Nat->Prop} {w:ϙ} {rows:Ϯ} {base:Option Addr} {b o sz:Nat} {f:Nat->Nat->ϛ} (h:Em I w rows base b o sz f) (hs:sz≠0) :
  ∃us,Flat I w rows sz us/\∀q u,us[q]?=Y u->I b (o+q)/\w.cell? ⟨b,o+q,G⟩=Y u:=by
 refine⟨(List.range (rows.length*sz)).map (λq=>f (q / sz) (q % sz)),⟨AD,h.hsz,λi m j c d p=>?_⟩,λq u k=>?_⟩
 .have l:=DY d
  have n:j<sz:=by rw[<-h.hsz m (A8 d)]; grind
  have e:i*sz+j<rows.length*sz:=by
   have:(i+1)*sz<=rows.length*sz:=Be _ l
   grind
  refine⟨f i j,?_,h.hv i m j c d p⟩;have⟨r,s⟩:=gA (i:=i) n;simp[E8,Sj e,r,s]
 .have e:q<rows.length*sz:=by have:=DY k; simpa using this
  simp[E8,Sj e] at k;subst k;have l:q / sz<rows.length:=Nat.div_lt_of_lt_mul AB;have hm:q % sz<sz:=Nat.mod_lt _ AA;have d:rows[q / sz]?=Y rows[q / sz]:=by simp[l]
  have t:rows[q / sz].length=sz:=h.hsz _ AD;have x:=h.hc (q / sz) rows[q / sz] (q % sz) (rows[q / sz][q % sz]'(AA)) d (by simp[t,hm])
  grind[Nat.div_add_mod]
theorem EU {g:AZ} {w:ϙ} {x:AV} {rows:Ϯ} {v:ϛ} (h:V g w x v) (d:rowsOf x=Y rows) :
  ∃base cap b o sz f,v=.slice base rows.length cap/\rows.length<=cap/\Em g.I w rows base b o sz f:=by
 unfold rowsOf at d;split at d
 .simp at d; subst d
  cases h with|pv h=>exact h.rows
 .simp at d; subst d
  cases h with|AE h=>grind
 .simp at d; subst d
  cases h with|own h e=>grind
 grind
def gC {g:AZ} {w:ϙ} {x:AV} {p:PV} {v:ϛ} (h:V g w x v) (b:KX x=Y p):VP g.I w p v:=by
 unfold KX at b;split at b
 .simp at b; subst b; cases h with|pv h=>exact h
 .simp at b; subst b; cases h with|AE h=>grind[VP.Ja]
 .simp at b; subst b; cases h with|own h d=>grind[VP.Ja]
 grind
def HO {g:AZ} {w:ϙ} {cs:Ϭ}:∀{ps:Ϧ} {vs:List ϛ},VL g w cs vs->C0 cs=Y ps ->
  ps.length=vs.length/\∀(j:Nat) p,ps[j]?=Y p->∃u,vs[j]?=Y u/\VP g.I w p u:=by
 induction cs with
 | nil=>intro ps vs h b; simp[C0] at b; subst b; rw[h.Fb]; simp
 | cons c cs f=>
  intro ps vs h b;obtain⟨u,us,rfl,i,k⟩:=h.cases;simp only[C0] at b;split at b
  .rename_i p m l e
   simp at b; subst b;have⟨k1,k2⟩:=f k e;refine⟨AB,λj n d=>?_⟩;cases j with
   | zero=>simp at d; subst d; exact⟨u,rfl,gC i l⟩
   | succ j=>grind
  grind
theorem Fo (k:Nat):∀(n:Nat) (ps:Ϧ),(CZ k n ps).length=n:=by
 intro n
 induction n with
 | zero=>intro ps; rfl
 | succ n b=>grind[CZ]
def TW (k:Nat):∀(n:Nat) (ps:Ϧ) (i:Nat) (row:Ϧ),(CZ k n ps)[i]?=Y row->row=(ps.drop (i*k)).take k:=by
 intro n
 induction n with
 | zero=>grind[CZ]
 | succ n b=>
  intro ps i row h;cases i with
  | zero=>grind[CZ]
  | succ i=>
   grind[CZ,List.drop_drop]
def Ip {I:Nat->Nat->Prop} {w:ϙ} {k n:Nat} {ps:Ϧ} {us:List ϛ} (hn:us.length=n*k) (f:ps.length=us.length)
  (h:∀(j:Nat) p,ps[j]?=Y p->∃u,us[j]?=Y u/\VP I w p u):Flat I w (CZ k n ps) k us:=by
 refine⟨by rw[Fo,hn],λd b=>?_,λi d j c b l=>?_⟩
 .obtain⟨i,e,rfl⟩:=Nf.1 b
  rw[Fo] at e;have:=TW k n ps i _ (Az AA);rw[this];have:(i+1)*k<=n*k:=Be _ e
  grind
 .have:=TW k n ps i d b
  grind
theorem Rr {α:Type} (l:List α):∀n,(GC n l).length=n*l.length:=by
 intro n
 induction n with
 | zero=>simp[GC]
 | succ n b=>grind[GC]
theorem VL.GC {g:AZ} {w:ϙ} {cs:Ϭ} {vs:List ϛ} (h:VL g w cs vs):∀n,VL g w (Tel.GC n cs) (Tel.GC n vs):=by
 intro n
 induction n with
 | zero=>exact .nil
 | succ n b=>exact h.append b
def gD (z:List ϛ) (b:z≠[]) (d:ϛ):∀n,(List.range (n*z.length)).map (λi=>(z[i % z.length]?).getD d)=GC n z:=by
 have f:0<z.length:=List.length_pos_iff.2 b;intro n
 induction n with
 | zero=>simp[GC]
 | succ n j=>
  have e:(n+1)*z.length=z.length+n*z.length:=AB;rw[e,List.range_add,Sl];simp only[PR,GC];congr 1
  .apply Fw
   grind[Nat.mod_eq_of_lt]
  simp[*,Yd]
def TX (z:Array ϛ) (n:Nat) (d:z.size≠0):(Array.range (n*z.size)).map (z[· % z.size]!)=⟨GC n z.toList⟩:=by
 apply Ng;have b:z.toList≠[]:=HG;have:=gD z.toList b default n
 grind[Array.toList_map,List.map_congr_left]
end Go.Tel
