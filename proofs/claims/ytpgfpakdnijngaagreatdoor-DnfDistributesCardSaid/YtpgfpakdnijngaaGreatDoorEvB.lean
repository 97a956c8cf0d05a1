/-
  The relation between abstract and concrete states, and what it keeps.
-/
import Derived.Test.YtpgfpakdnijngaaGreatDoorEvA
set_option linter.unusedSimpArgs false
set_option linter.unusedVariables false
namespace Go.Tel
structure Pe where
 b:Nat
 cap:Nat
 sz:Nat
 n:Nat
 e:TypeId
structure AH where
 blk:Nat->Option Nat
 dead:Nat->Prop
 C1:Nat->Prop
 tok:Nat->Option Pe
 mp:Nat->Option Nat
 I:Nat->Nat->Prop
 hd:∀ id,dead id->blk id=none
inductive VP (I:Nat->Nat->Prop) (w:World):PV->Value->Prop where
 | sc (v:Value):VP I w (.sc v) v
 | list (rows:List (List PV)) (base:Option Addr) (cap b o sz:Nat) (f:Nat->Nat->Value)
   (hcap:rows.length<=cap)
   (hsz:∀ row∈rows,row.length=sz)
   (hbase:rows≠[]->sz≠0->base=some ⟨b,o,none⟩)
   (hc:∀ i row j c,rows[i]?=some row->row[j]?=some c->I b (o+i*sz+j)/\w.cell? ⟨b,o+i*sz+j,none⟩=some (f i j))
   (hv:∀ i row j c,rows[i]?=some row->row[j]?=some c->VP I w c (f i j)) :
   VP I w (.list rows) (.slice base rows.length cap)
structure EH (I:Nat->Nat->Prop) (w:World) (rows:List (List PV)) (base:Option Addr) (b o sz:Nat) (f:Nat->Nat->Value):Prop where
 hsz:∀ row∈rows,row.length=sz
 hbase:rows≠[]->sz≠0->base=some ⟨b,o,none⟩
 hc:∀ i row j c,rows[i]?=some row->row[j]?=some c->I b (o+i*sz+j)/\w.cell? ⟨b,o+i*sz+j,none⟩=some (f i j)
 hv:∀ i row j c,rows[i]?=some row->row[j]?=some c->VP I w c (f i j)
theorem VP.mono {I I':Nat->Nat->Prop} {w w':World} (hI:∀ b o,I b o->I' b o) (hw:∀ b o,I b o->w'.cell? ⟨b,o,none⟩=w.cell? ⟨b,o,none⟩)
  {p:PV} {v:Value} (h:VP I w p v):VP I' w' p v:=by
 induction h with
 | sc v=>exact .sc v
 | list rows base cap b o sz f hcap hsz hbase hc _ ih=>
  refine .list rows base cap b o sz f hcap hsz hbase (fun i row j c hr hj=>?_) ih;obtain⟨h1,h2⟩:=hc i row j c hr hj;exact⟨hI _ _ h1,by rw[hw _ _ h1]; exact h2⟩
theorem EH.mono {I I':Nat->Nat->Prop} {w w':World} (hI:∀ b o,I b o->I' b o) (hw:∀ b o,I b o->w'.cell? ⟨b,o,none⟩=w.cell? ⟨b,o,none⟩)
  {rows:List (List PV)} {base:Option Addr} {b o sz:Nat} {f:Nat->Nat->Value} (h:EH I w rows base b o sz f):EH I' w' rows base b o sz f:=by
 refine⟨h.hsz,h.hbase,fun i row j c hr hj=>?_,fun i row j c hr hj=>(h.hv i row j c hr hj).mono hI hw⟩;obtain⟨h1,h2⟩:=h.hc i row j c hr hj;exact⟨hI _ _ h1,by rw[hw _ _ h1]; exact h2⟩
theorem EH.nil {I:Nat->Nat->Prop} {w:World} {base:Option Addr} {b o sz:Nat} {f:Nat->Nat->Value}:EH I w [] base b o sz f:=
 ⟨by simp,by simp,by simp,by simp⟩
theorem VP.IP {I:Nat->Nat->Prop} {w:World} {rows:List (List PV)} {base:Option Addr} {b o sz cap:Nat} {f:Nat->Nat->Value}
  (h:EH I w rows base b o sz f) (hc:rows.length<=cap):VP I w (.list rows) (.slice base rows.length cap):=
 .list rows base cap b o sz f hc h.hsz h.hbase h.hc h.hv
theorem VP.rows {I:Nat->Nat->Prop} {w:World} {rows:List (List PV)} {v:Value} (h:VP I w (.list rows) v) :
  ∃ base cap b o sz f,v=.slice base rows.length cap/\rows.length<=cap/\EH I w rows base b o sz f:=by
 cases h with
 | list _ base cap b o sz f hcap hsz hbase hc hv=>exact⟨base,cap,b,o,sz,f,rfl,hcap,hsz,hbase,hc,hv⟩
theorem VP.IW {I:Nat->Nat->Prop} {w:World} {u v:Value} (h:VP I w (.sc u) v):v=u:=by cases h; rfl
inductive V (g:AH) (w:World):AV->Value->Prop where
 | pv {p:PV} {v:Value} (h:VP g.I w p v):V g w (.pv p) v
 | ptr {id off b:Nat} (h:g.blk id=some b):V g w (.ptr id off) (.pointer (some ⟨b,off,none⟩))
 | Ki {id off:Nat} {a:Option Addr} (h:g.dead id):V g w (.ptr id off) (.pointer a)
 | De (gl off:Nat):V g w (.De gl off) (.pointer (some ⟨gl,off,none⟩))
 | DK {row:List PV} {b o:Nat} (off:Nat) (f:Nat->Value)
   (h:∀ j c,row[j]?=some c->g.I b (o+j)/\w.cell? ⟨b,o+j,none⟩=some (f j)/\VP g.I w c (f j)) :
   V g w (.DK row off) (.pointer (some ⟨b,o+off,none⟩))
 | AA {rows:List (List PV)} {base:Option Addr} {b o sz:Nat} {f:Nat->Nat->Value} (h:EH g.I w rows base b o sz f) :
   V g w (.AA rows) (.slice base rows.length rows.length)
 | own {t:Nat} {rows:List (List PV)} {base:Option Addr} {b o sz cap:Nat} {f:Nat->Nat->Value} {l:Pe} (h:EH g.I w rows base b o sz f)
   (hcap:rows.length<=cap) (ht:g.tok t=some l) (hn:rows.length<=l.n)
   (hf:rows.length=l.n->base=some ⟨l.b,0,none⟩/\cap=l.cap/\sz=l.sz/\b=l.b/\o=0) :
   V g w (.own t rows) (.slice base rows.length cap)
 | ref {id off len sz b cap n:Nat} {e:TypeId} (h:g.blk id=some b) (hcap:len<=cap) (hs:w.shape? b=some (e,n)) (hn:off+cap*sz<=n) :
   V g w (.ref id off len sz) (.slice (some ⟨b,off,none⟩) len cap)
 | I8 {id off len sz n c:Nat} {a:Option Addr} (h:g.dead id):V g w (.ref id off len sz) (.slice a n c)
 | HU {a:Option Addr}:V g w .HU (.pointer a)
 | Fg {id b:Nat} (h:g.mp id=some b):V g w (.Fg id) (.map (some b))
 | bz {id b n:Nat} {t:TypeId} (h:g.blk id=some b) (hs:w.shape? b=some (t,n)):V g w (.bz id t n) (.pointer none)
 | nQ {id n:Nat} {t:TypeId} (h:g.dead id):V g w (.bz id t n) (.pointer none)
 | func {fn:Fn} {first captured:List AV} {vs us:List Value} (hl:first.length=vs.length) (hm:captured.length=us.length)
   (h:∀ (i:Nat) c v,first[i]?=some c->vs[i]?=some v->V g w c v) (k:∀ (i:Nat) c v,captured[i]?=some c->us[i]?=some v->V g w c v) :
   V g w (.func fn first captured) (.func fn vs.toArray us.toArray)
 | iface {t:TypeId} {x:AV} {v:Value} (h:V g w x v):V g w (.iface t x) (.iface t v)
 | agg {cs:List AV} {vs:List Value} (hl:cs.length=vs.length) (h:∀ (i:Nat) c v,cs[i]?=some c->vs[i]?=some v->V g w c v):V g w (.agg cs) (.agg vs.toArray)
 | tuple {cs:List AV} {vs:List Value} (hl:cs.length=vs.length) (h:∀ (i:Nat) c v,cs[i]?=some c->vs[i]?=some v->V g w c v):V g w (.tuple cs) (.tuple vs.toArray)
structure VL (g:AH) (w:World) (cs:List AV) (vs:List Value):Prop where
 len:cs.length=vs.length
 at_:∀ (i:Nat) c v,cs[i]?=some c->vs[i]?=some v->V g w c v
theorem VL.nil {g:AH} {w:World}:VL g w [] []:=⟨rfl,by simp⟩
theorem VL.cons {g:AH} {w:World} {c:AV} {v:Value} {cs:List AV} {vs:List Value} (h:V g w c v) (k:VL g w cs vs):VL g w (c::cs) (v::vs):=
 ⟨by simp[k.len],fun i=>by
  cases i with
  | zero=>simp; exact h
  | succ i=>simpa using k.at_ i⟩
theorem VL.head {g:AH} {w:World} {c:AV} {v:Value} {cs:List AV} {vs:List Value} (h:VL g w (c::cs) (v::vs)):V g w c v:=h.at_ 0 c v rfl rfl
theorem VL.tail {g:AH} {w:World} {c:AV} {v:Value} {cs:List AV} {vs:List Value} (h:VL g w (c::cs) (v::vs)):VL g w cs vs:=
 ⟨by have:=h.len; simp at this; exact this,fun i c v h1 h2=>h.at_ (i+1) c v (by simpa using h1) (by simpa using h2)⟩
theorem VL.cases {g:AH} {w:World} {c:AV} {cs:List AV} {vs:List Value} (h:VL g w (c::cs) vs):∃ u us,vs=u::us/\V g w c u/\VL g w cs us:=by
 cases vs with
 | nil=>have:=h.len; simp at this
 | cons u us=>exact⟨u,us,rfl,h.head,h.tail⟩
theorem VL.Ee {g:AH} {w:World} {vs:List Value} (h:VL g w [] vs):vs=[]:=by
 have:=h.len; simp at this; exact(Mh.1 this.symm)
theorem VL.append {g:AH} {w:World} {cs ds:List AV} {vs us:List Value} (h:VL g w cs vs) (k:VL g w ds us):VL g w (cs++ds) (vs++us):=by
 induction cs generalizing vs with
 | nil=>rw[h.Ee]; simpa using k
 | cons c cs ih=>
  obtain⟨u,us',rfl,h1,h2⟩:=h.cases;exact .cons h1 (ih h2)
theorem VL.take {g:AH} {w:World} {cs:List AV} {vs:List Value} (h:VL g w cs vs) (n:Nat):VL g w (cs.take n) (vs.take n):=
 ⟨by simp[h.len],fun i c v h1 h2=>by
  rw[CT] at h1 h2;split at h1
  ·rename_i hi; rw[if_pos hi] at h2; exact h.at_ i c v h1 h2
  ·simp at h1⟩
theorem VL.drop {g:AH} {w:World} {cs:List AV} {vs:List Value} (h:VL g w cs vs) (n:Nat):VL g w (cs.drop n) (vs.drop n):=
 ⟨by simp[h.len],fun i c v h1 h2=>by
  rw[GM] at h1 h2;exact h.at_ _ c v h1 h2⟩
theorem VL.get {g:AH} {w:World} {cs:List AV} {vs:List Value} (h:VL g w cs vs) {i:Nat} {c:AV} (hc:cs[i]?=some c):∃ v,vs[i]?=some v/\V g w c v:=by
 have hi:i<vs.length:=by
  rw[<-h.len];rcases CU i cs.length with k|k
  ·exact k
  ·rw[Ea k] at hc; simp at hc
 exact⟨vs[i],by simp[hi],h.at_ i c _ hc (by simp[hi])⟩
theorem VL.set {g:AH} {w:World} {cs:List AV} {vs:List Value} (h:VL g w cs vs) {c:AV} {v:Value} (i:Nat) (hv:V g w c v):VL g w (cs.set i c) (vs.set i v):=by
 refine⟨by simp[h.len],fun j c' v' h1 h2=>?_⟩;rw[Wv] at h1 h2;split at h1
 ·rename_i hij
  rw[if_pos hij] at h2;split at h1
  ·split at h2
   ·simp at h1 h2; subst h1; subst h2; exact hv
   ·simp at h2
  ·simp at h1
 ·rename_i hij
  rw[if_neg hij] at h2;exact h.at_ j c' v' h1 h2
structure Ext (L:A0) (g:AH) (w:World) (g':AH) (w':World):Prop where
 os:w'.os=w.os
 tape:w'.tape=w.tape
 output:w'.output=w.output
 size:w.heap.size<=w'.heap.size
 mono:∀ b o,g.I b o->g'.I b o
 cell:∀ b o,g.I b o->w'.cell? ⟨b,o,none⟩=w.cell? ⟨b,o,none⟩
 blk:∀ id b,g.blk id=some b->g'.blk id=some b\/g'.dead id
 dead:∀ id,g.dead id->g'.dead id
 shape:∀ id b,g.blk id=some b->g'.blk id=some b->w'.shape? b=w.shape? b
 tok:∀ t l,g.tok t=some l->∃ l',g'.tok t=some l'/\(l'=l\/l.n<l'.n)
 Fa:∀ id b,g.blk id=some b->id<L.ro->g'.blk id=some b/\w'.heap[b]?=w.heap[b]?
 FI:∀ t l,g.tok t=some l->t<L.rt->g'.tok t=some l/\w'.heap[l.b]?=w.heap[l.b]?/\∀ o,g'.I l.b o->g.I l.b o
 out:∀ b,b<w.heap.size->(∀ id,g.blk id≠some b)->(∀ t l,g.tok t=some l->l.b≠b)->(∀ id,g.mp id≠some b)->w'.heap[b]?=w.heap[b]?/\∀ o,g'.I b o->g.I b o
 mp:∀ id b,g.mp id=some b->g'.mp id=some b
 FJ:∀ id b,g.mp id=some b->(id<L.ro->w'.heap[b]?=w.heap[b]?)/\∀ o,g'.I b o->g.I b o
 JT:∀ id b,g'.mp id=some b->b<w.heap.size->∃ FR,g.mp FR=some b
 Gk:∀ id b,g'.blk id=some b->b<w.heap.size->∃ FR,g.blk FR=some b
 JU:∀ t l',g'.tok t=some l'->l'.b<w.heap.size->∃ l,g.tok t=some l/\l.b=l'.b
 C1:∀ id,g.C1 id->g'.C1 id
theorem Ext.refl (L:A0) (g:AH) (w:World):Ext L g w g w:=
 ⟨rfl,rfl,rfl,AL _,fun _ _ h=>h,fun _ _ _=>rfl,fun _ _ h=>.inl h,fun _ h=>h,fun _ _ _ _=>rfl,fun _ l h=>⟨l,h,.inl rfl⟩,fun _ _ h _=>⟨h,rfl⟩,
  fun _ _ h _=>⟨h,rfl,fun _ h=>h⟩,fun _ _ _ _ _=>⟨rfl,fun _ h=>h⟩,fun _ _ h=>h,fun _ _ _=>⟨fun _=>rfl,fun _ h=>h⟩,fun id _ h _=>⟨id,h⟩,fun id _ h _=>⟨id,h⟩,fun _ l h _=>⟨l,h,rfl⟩,fun _ h=>h⟩
theorem DC {w w':World} {b:Nat} (h:w'.heap[b]?=w.heap[b]?):w'.shape? b=w.shape? b:=by simp[World.shape?,h]
theorem Ext.trans {L:A0} {g g' g'':AH} {w w' w'':World} (h:Ext L g w g' w') (k:Ext L g' w' g'' w''):Ext L g w g'' w'' where
 os:=k.os.trans h.os
 tape:=k.tape.trans h.tape
 output:=k.output.trans h.output
 size:=Bh h.size k.size
 mono:=fun b o hi=>k.mono b o (h.mono b o hi)
 cell:=fun b o hi=>(k.cell b o (h.mono b o hi)).trans (h.cell b o hi)
 blk:=fun id b hb=>by
  rcases h.blk id b hb with x|x
  ·exact k.blk id b x
  ·exact .inr (k.dead id x)
 dead:=fun id hd=>k.dead id (h.dead id hd)
 shape:=fun id b hb ADM=>by
  rcases h.blk id b hb with x|x
  ·exact(k.shape id b x ADM).trans (h.shape id b hb x)
  ·have:=g''.hd id (k.dead id x); rw[this] at ADM; simp at ADM
 tok:=fun t l hl=>by
  obtain⟨l',h1,h2⟩:=h.tok t l hl;obtain⟨l'',k1,k2⟩:=k.tok t l' h1;refine⟨l'',k1,?_⟩;rcases h2 with rfl|h2
  ·exact k2
  ·rcases k2 with rfl|k2
   ·exact .inr h2
   ·exact .inr (Wu h2 k2)
 Fa:=fun id b hb hlt=>by
  obtain⟨h1,h2⟩:=h.Fa id b hb hlt;obtain⟨k1,k2⟩:=k.Fa id b h1 hlt;exact⟨k1,k2.trans h2⟩
 FI:=fun t l hl hlt=>by
  obtain⟨a1,a2,a3⟩:=h.FI t l hl hlt;obtain⟨b1,b2,b3⟩:=k.FI t l a1 hlt;exact⟨b1,b2.trans a2,fun o ho=>a3 o (b3 o ho)⟩
 out:=fun b hb h1 h2 h3=>by
  obtain⟨a1,a2⟩:=h.out b hb h1 h2 h3
  obtain⟨b1,b2⟩:=k.out b (GN hb h.size) (fun id e=>by obtain⟨FR,e0⟩:=h.Gk id b e hb; exact h1 FR e0)
   (fun t l' hl e=>by obtain⟨l,XS,Oc⟩:=h.JU t l' hl (e ▸ hb); exact h2 t l XS (Oc.trans e)) (fun id e=>by obtain⟨FR,e0⟩:=h.JT id b e hb; exact h3 FR e0)
  exact⟨b1.trans a1,fun o ho=>a2 o (b2 o ho)⟩
 mp:=fun id b hb=>k.mp id b (h.mp id b hb)
 FJ:=fun id b hb=>by
  obtain⟨a1,a2⟩:=h.FJ id b hb;obtain⟨b1,b2⟩:=k.FJ id b (h.mp id b hb);exact⟨fun hlt=>(b1 hlt).trans (a1 hlt),fun o ho=>a2 o (b2 o ho)⟩
 JT:=fun id b hb hlt=>by
  obtain⟨id1,h1⟩:=k.JT id b hb (GN hlt h.size);exact h.JT id1 b h1 hlt
 Gk:=fun id b hb hlt=>by
  obtain⟨id1,h1⟩:=k.Gk id b hb (GN hlt h.size);exact h.Gk id1 b h1 hlt
 JU:=fun t l'' hl hlt=>by
  obtain⟨l',k1,k2⟩:=k.JU t l'' hl (GN hlt h.size);obtain⟨l,h1,h2⟩:=h.JU t l' k1 (k2 ▸ hlt);exact⟨l,h1,h2.trans k2⟩
 C1:=fun id hp=>k.C1 id (h.C1 id hp)
theorem V.mono {L:A0} {g g':AH} {w w':World} (e:Ext L g w g' w') {a:AV} {v:Value} (h:V g w a v):V g' w' a v:=by
 induction h with
 | pv h=>exact .pv (h.mono e.mono e.cell)
 | ptr h=>
  rcases e.blk _ _ h with k|k
  ·exact .ptr k
  ·exact .Ki k
 | Ki h=>exact .Ki (e.dead _ h)
 | De gl off=>exact .De gl off
 | DK off f h=>
  refine .DK off f (fun j c hj=>?_);obtain⟨h1,h2,h3⟩:=h j c hj;exact⟨e.mono _ _ h1,by rw[e.cell _ _ h1]; exact h2,h3.mono e.mono e.cell⟩
 | AA h=>exact .AA (h.mono e.mono e.cell)
 | own h hcap ht hn hf=>
  obtain⟨l',h1,h2⟩:=e.tok _ _ ht;refine .own (h.mono e.mono e.cell) hcap h1 ?_ ?_
  ·rcases h2 with rfl|h2
   ·exact hn
   ·omega
  ·rcases h2 with rfl|h2
   ·exact hf
   ·intro; omega
 | ref h hcap hs hn=>
  rcases e.blk _ _ h with k|k
  ·exact .ref k hcap ((e.shape _ _ h k).trans hs) hn
  ·exact .I8 k
 | I8 h=>exact .I8 (e.dead _ h)
 | HU=>exact .HU
 | Fg h=>exact .Fg (e.mp _ _ h)
 | bz h hs=>
  rcases e.blk _ _ h with k|k
  ·exact .bz k ((e.shape _ _ h k).trans hs)
  ·exact .nQ k
 | nQ h=>exact .nQ (e.dead _ h)
 | func hl hm _ _ ih ik=>exact .func hl hm ih ik
 | iface _ ih=>exact .iface ih
 | agg hl _ ih=>exact .agg hl ih
 | tuple hl _ ih=>exact .tuple hl ih
theorem VL.mono {L:A0} {g g':AH} {w w':World} (e:Ext L g w g' w') {cs:List AV} {vs:List Value} (h:VL g w cs vs):VL g' w' cs vs:=
 ⟨h.len,fun i c v h1 h2=>(h.at_ i c v h1 h2).mono e⟩
structure Inv (E:Env) (g:AH) (w:World) (s:AK):Prop where
 EB:∀ id b,g.blk id=some b->id<s.bs.length
 DL:∀ id,g.dead id->id<s.bs.length
 blk:∀ id b,g.blk id=some b->∃ cs vs e,s.bs[id]?=some cs/\w.heap[b]?=some (.cells ⟨vs⟩ e (0,0))/\cs.length<=vs.length/\VL g w cs (vs.take cs.length)
 FT:∀ id b o,g.blk id=some b->¬ g.I b o
 DM:∀ id,g.dead id->s.bs[id]?=some []
 DV:∀ id,g.C1 id->id<s.bs.length/\g.blk id=none/\¬ g.dead id
 EG:∀ id,id<s.bs.length->(∃ b,g.blk id=some b)\/g.dead id\/g.C1 id\/∃ b,g.mp id=some b
 mp:∀ id b,g.mp id=some b->∃ es clock,s.bs[id]?=some [.LD es clock]/\w.heap[b]?=some (.map (List.toArray es) clock)
 KM:∀ id b,g.mp id=some b->g.blk id=none/\¬ g.dead id/\¬ g.C1 id
 GU:∀ id id' b,g.mp id=some b->g.mp id'=some b->id=id'
 F6:∀ t n k,s.ts[t]?=some (n,k)->∃ l,g.tok t=some l/\l.n=n/\l.e=k
 F7:∀ t l,g.tok t=some l->s.ts[t]?=some (l.n,l.e)
 tok:∀ t l,g.tok t=some l->∃ vs fz,w.heap[l.b]?=some (.cells ⟨vs⟩ l.e fz)/\vs.length=l.cap*l.sz/\l.n<=l.cap/\l.sz≠0/\fz.2<=l.n*l.sz/\Dd E.P l.e=some l.sz
 GV:∀ t l o,g.tok t=some l->l.n*l.sz<=o->¬ g.I l.b o
 ET:∀ id id' b,g.blk id=some b->g.blk id'=some b->id=id'
 Fi:∀ t t' l l',g.tok t=some l->g.tok t'=some l'->l.b=l'.b->t=t'
 Cp:∀ id b t l,g.blk id=some b->g.tok t=some l->b≠l.b
 Il:∀ b o,g.I b o->b<w.heap.size
 Ey:∀ gl row,E.G gl=some row->∀ j c,row[j]?=some c->∃ v,g.I gl j/\w.cell? ⟨gl,j,none⟩=some v/\VP g.I w c v
 C3:∀ gl row,E.G gl=some row->g.I gl row.length/\w.cell? ⟨gl,row.length,none⟩=none
theorem Inv.C4 {E:Env} {g:AH} {w:World} {s:AK} (h:Inv E g w s) {id b:Nat} (hb:g.blk id=some b):b<w.heap.size:=by
 obtain⟨cs,vs,e,_,h2,_,_⟩:=h.blk id b hb;rcases CU b w.heap.size with k|k
 ·exact k
 ·simp[ID k] at h2
theorem EI {w:World} {b:Nat} {o:Obj} (h:w.heap[b]?=some o):b<w.heap.size:=by
 rcases CU b w.heap.size with k|k
 ·exact k
 ·simp[ID k] at h
theorem Inv.I9 {E:Env} {g:AH} {w:World} {s:AK} (h:Inv E g w s) {id b:Nat} (hb:g.mp id=some b):b<w.heap.size:=by
 obtain⟨_,_,_,h2⟩:=h.mp id b hb;exact EI h2
theorem Inv.lH {E:Env} {g:AH} {w:World} {s:AK} (h:Inv E g w s) {id b:Nat} (hb:g.mp id=some b):id<s.bs.length:=by
 obtain⟨_,_,h1,_⟩:=h.mp id b hb;exact(Ae.1 h1).1
theorem Inv.Hj {E:Env} {g:AH} {w w':World} {s s':AK} (h:Inv E g w s) (hs:∀ id b,g.mp id=some b->s'.bs[id]?=s.bs[id]?) (hw:∀ id b,g.mp id=some b->w'.heap[b]?=w.heap[b]?) :
  ∀ id b,g.mp id=some b->∃ es clock,s'.bs[id]?=some [.LD es clock]/\w'.heap[b]?=some (.map (List.toArray es) clock):=fun id b hb=>by
 obtain⟨es,c,h1,h2⟩:=h.mp id b hb;exact⟨es,c,(hs id b hb).trans h1,(hw id b hb).trans h2⟩
theorem Inv.lI {E:Env} {g:AH} {w:World} {s:AK} (h:Inv E g w s) {id id' b b':Nat} (hb:g.blk id=some b) (hb':g.mp id'=some b'):id≠id':=fun e=>by
 have:=(h.KM id' b' hb').1;rw[<-e,hb] at this; simp at this
theorem Inv.yD {E:Env} {g:AH} {w:World} {s:AK} (h:Inv E g w s) {id id' b:Nat} (hb:g.mp id=some b):g.blk id'≠some b:=fun e=>by
 obtain⟨_,_,_,h2⟩:=h.mp id b hb;obtain⟨_,_,_,_,h3,_⟩:=h.blk id' b e;rw[h2] at h3; simp at h3
theorem Inv.mpT {E:Env} {g:AH} {w:World} {s:AK} (h:Inv E g w s) {id b:Nat} {t:Nat} {l:Pe} (hb:g.mp id=some b) (hl:g.tok t=some l):b≠l.b:=fun e=>by
 obtain⟨_,_,_,h2⟩:=h.mp id b hb;obtain⟨_,_,h3,_⟩:=h.tok t l hl;rw[e,h3] at h2; simp at h2
theorem Inv.EE {E:Env} {g:AH} {w:World} {s:AK} (h:Inv E g w s) {t:Nat} {l:Pe} (hl:g.tok t=some l):l.b<w.heap.size:=by
 obtain⟨vs,e,h2,_⟩:=h.tok t l hl;rcases CU l.b w.heap.size with k|k
 ·exact k
 ·simp[ID k] at h2
theorem VH (P:Program) {α:Type} (s:Sem α) (a:α) (h:quick P s=some a) (w:World):s.run P w=.ok a w:=by
 induction s with
 | pure x=>simp[quick] at h; subst h; rfl
 | program k ih=>simp only[quick] at h; simp only[Sem.run]; exact ih P h
 | mark m k ih=>simp only[quick] at h; simp only[Sem.run]; exact ih h
 | load=>simp[quick] at h
 | store=>simp[quick] at h
 | new=>simp[quick] at h
 | shape=>simp[quick] at h
 | freeze=>simp[quick] at h
 | frozen=>simp[quick] at h
 | getObj=>simp[quick] at h
 | setObj=>simp[quick] at h
 | choose=>simp[quick] at h
 | sys=>simp[quick] at h
 | halt=>simp[quick] at h
theorem V.IW {g:AH} {w:World} (v:Value):V g w (IW v) v:=.pv (.sc v)
theorem V.CM {g:AH} {w:World} {u v:Value} (h:V g w (.pv (.sc u)) v):v=u:=by cases h with|pv h=>exact h.IW
theorem VL.yE {g:AH} {w:World} (vs:List Value):VL g w (vs.map Tel.IW) vs:=by
 induction vs with
 | nil=>exact .nil
 | cons v vs ih=>exact .cons (.IW v) ih
theorem VL.map {g:AH} {w:World} {f:Value->AV} (hf:∀ v,V g w (f v) v) (vs:List Value):VL g w (vs.map f) vs:=by
 induction vs with
 | nil=>exact .nil
 | cons v vs ih=>exact .cons (hf v) ih
theorem V.L5 {g:AH} {w:World} (v:Value):V g w (L5 v) v:=by
 unfold Tel.L5;split
 ·rename_i cs; have h:=VL.yE (g:=g) (w:=w) cs.toList; exact .agg h.len h.at_
 ·rename_i vs; have h:=VL.yE (g:=g) (w:=w) vs.toList; exact .tuple h.len h.at_
 ·exact .IW _
theorem V.HZ {g:AH} {w:World} (v:Value):V g w (HZ v) v:=by
 unfold Tel.HZ;split
 ·exact .AA (b:=0) (o:=0) (sz:=0) (f:=fun _ _=>undef) .nil
 ·exact .IW _
theorem V.ofConst {g:AH} {w:World} (v:Value):V g w (ofConst v) v:=by
 unfold Tel.ofConst;split
 ·rename_i cs; have h:=VL.map (g:=g) (w:=w) (V.HZ) cs.toList; exact .agg h.len h.at_
 ·rename_i vs; have h:=VL.yE (g:=g) (w:=w) vs.toList; exact .tuple h.len h.at_
 ·exact V.HZ _
theorem AO {g:AH} {w:World} {ρ:Nat->AV} {a:Act} (hρ:∀ t,V g w (ρ t) (a.tmps.getD t undef)) (x:Operand):V g w (AP ρ x) (a.eval x):=by
 cases x with
 | tmp t=>exact hρ t
 | const v=>exact V.ofConst v
 | global gl=>exact .De gl 0
 | func f=>exact .func (vs:=[]) (us:=[]) rfl rfl (by simp) (by simp)
theorem V.lJ {g:AH} {w:World} {cs:List AV} {vs:List Value} (h:VL g w cs vs):V g w (.agg cs) (.agg ⟨vs⟩):=.agg h.len h.at_
theorem V.tuple' {g:AH} {w:World} {cs:List AV} {vs:List Value} (h:VL g w cs vs):V g w (.tuple cs) (.tuple ⟨vs⟩):=.tuple h.len h.at_
theorem V.Rp {g:AH} {w:World} {cs:List AV} {v:Value} (h:V g w (.agg cs) v):∃ vs,v=.agg ⟨vs⟩/\VL g w cs vs:=by
 cases h with|agg hl h=>exact⟨_,rfl,hl,h⟩
theorem V.Pg {g:AH} {w:World} {cs:List AV} {v:Value} (h:V g w (.tuple cs) v):∃ vs,v=.tuple ⟨vs⟩/\VL g w cs vs:=by
 cases h with|tuple hl h=>exact⟨_,rfl,hl,h⟩
theorem V.undef {g:AH} {w:World}:V g w (.tuple []) undef:=V.tuple' .nil
theorem JV {g:AH} {w:World} {c:AV} {v:Value} (h:V g w c v) (hc:Ar c=true):v.oneCell'=true:=by
 cases h with
 | pv h=>
  cases h with
  | sc v=>cases v <;> simp_all [Ar,Value.oneCell']
  | list=>rfl
 | agg=>simp[Ar] at hc
 | tuple=>simp[Ar] at hc
 | ptr|Ki|De|DK|AA|own|ref|I8|HU|Fg|func|iface|bz|nQ=>rfl
theorem lK {v:Value} (h:v.oneCell'=true):v.cells=#[v]:=by cases v <;> simp_all [Value.cells,Value.oneCell']
theorem El {g:AH} {w:World} {x:AV} {v:Value} (h:V g w x v) (hc:(cellsOf x).all Ar=true):VL g w (cellsOf x) v.cells.toList:=by
 cases x with
 | agg cs=>
  obtain⟨vs,rfl,hl⟩:=h.Rp;exact hl
 | tuple vs=>simp[cellsOf,Ar] at hc
 | _=>
  have h1:=JV h (by simpa[cellsOf] using hc);rw[lK h1];exact .cons h .nil
theorem DW (b o n:Nat):Addr.add ⟨b,o,none⟩ n=⟨b,o+n,none⟩:=by
 unfold Addr.add;split
 ·rename_i h; subst h; rfl
 ·rfl
theorem Od {P:Program} {w:World} {b o:Nat} (us:List Value):∀ (i:Nat) (acc:Array Value),
  (∀ (j:Nat) u,us[j]?=some u->w.cell? ⟨b,o+(i+j),none⟩=some u) ->
  (loadCellsFrom ⟨b,o,none⟩ i us.length acc).run P w=.ok (acc++us.toArray) w:=by
 induction us with
 | nil=>intro i acc _; simp[loadCellsFrom]
 | cons u us ih=>
  intro i acc h;have h0:=h 0 u rfl;simp only[Dq] at h0;simp only[A3,loadCellsFrom,Sem.run_bind,run_load,DW,h0,Result.andThen_ok];rw[ih (i+1) (acc.push u) (fun j u' hj=>by have:=h (j+1) u' (by simpa using hj); rw[show i+1+j=i+(j+1) by omega]; exact this)];simp
theorem Em {P:Program} {w:World} {b o:Nat} (us:List Value) (h:∀ (j:Nat) u,us[j]?=some u->w.cell? ⟨b,o+j,none⟩=some u) :
  (loadCells ⟨b,o,none⟩ us.length).run P w=.ok us.toArray w:=by
 have:=Od (P:=P) (w:=w) (b:=b) (o:=o) us 0 #[] (fun j u hj=>by simpa using h j u hj);simpa[loadCells] using this
theorem run_underlying {P:Program} {w:World} {t:TypeId} {d:TypeDesc} (h:P.underlying t=some d):(underlying t).run P w=.ok d w:=by
 simp[underlying,h]
theorem run_typeInfo {P:Program} {w:World} {t:TypeId} {i:TypeInfo} (h:P.info? t=some i):(typeInfo t).run P w=.ok i w:=by
 simp[typeInfo,h]
theorem run_sizeOf {P:Program} {w:World} {t:TypeId} {i:TypeInfo} (h:P.info? t=some i):(sizeOf t).run P w=.ok i.size w:=by
 simp[sizeOf,run_typeInfo h]
theorem FP {P:Program} {t:TypeId} {k:Nat} (h:Dd P t=some k):∃ i,P.info? t=some i/\i.size=k:=by
 unfold Dd at h;split at h
 ·rename_i i hi; simp at h; exact⟨i,hi,h⟩
 ·simp at h
theorem XT {P:Program} {g:AH} {w:World} {cs:List AV} {us:List Value} {b o off:Nat} {t:TypeId} {v:AV}
  (hl:VL g w cs us) (hcell:∀ (j:Nat) u,us[j]?=some u->w.cell? ⟨b,o+j,none⟩=some u) (hp:partOf P t cs off=some v) :
  ∃ v',(Instr.loadAt t (.pointer (some ⟨b,o+off,none⟩))).run P w=.ok v' w/\V g w v v':=by
 unfold partOf at hp;split at hp
 ·rename_i d i hd hi
  have one:cs[off]?=some v->∃ u,w.cell? ⟨b,o+off,none⟩=some u/\V g w v u:=by
   intro hv;obtain⟨u,h1,h2⟩:=hl.get hv;exact⟨u,hcell off u h1,h2⟩
  have many:(if off+i.size<=cs.length/\i.size≠0 then some (AV.agg ((cs.drop off).take i.size)) else none)=some v ->
    ∃ us',(loadCells ⟨b,o+off,none⟩ i.size).run P w=.ok (List.toArray us') w/\V g w v (.agg ⟨us'⟩):=by
   intro hv;split at hv
   ·rename_i hle
    have hle:=hle.1;simp at hv; subst hv;have hk:=(hl.drop off).take i.size;refine⟨_,?_,V.lJ hk⟩
    have hlen:((us.drop off).take i.size).length=i.size:=by
     have:=hl.len;simp; omega
    have:=Em (P:=P) (w:=w) (b:=b) (o:=o+off) ((us.drop off).take i.size) (fun j u hj=>by
     rw[CT] at hj;split at hj
     ·rw[GM] at hj
      rw[K6];exact hcell _ u hj
     ·simp at hj)
    rw[hlen] at this;exact this
   ·simp at hv
  cases d with
  | struct fs=>
   obtain⟨us',h1,h2⟩:=many hp;exact⟨_,by simp[Instr.loadAt,Instr.sureAddr,loadVar,isAgg,run_underlying hd,run_sizeOf hi,h1],h2⟩
  | array n e=>
   obtain⟨us',h1,h2⟩:=many hp;exact⟨_,by simp[Instr.loadAt,Instr.sureAddr,loadVar,isAgg,run_underlying hd,run_sizeOf hi,h1],h2⟩
  | _=>
   obtain⟨u,h1,h2⟩:=one hp;exact⟨u,by simp[Instr.loadAt,Instr.sureAddr,loadVar,isAgg,run_underlying hd,h1],h2⟩
 ·simp at hp
theorem Bd {w:World} {b o:Nat} {vs:List Value} {e:TypeId} {fz:Nat×Nat} (h:w.heap[b]?=some (.cells ⟨vs⟩ e fz)):w.cell? ⟨b,o,none⟩=vs[o]?:=by
 simp[World.cell?,h]
theorem iH {g:AH} {w:World} {row:List PV} {f:Nat->Value} (h:∀ (j:Nat) c,row[j]?=some c->VP g.I w c (f j)) :
  VL g w (row.map .pv) ((List.range row.length).map f):=by
 refine⟨by simp,fun i c v h1 h2=>?_⟩;rw[DR] at h1;cases hr:row[i]? with
 | none=>simp[hr] at h1
 | some p=>
  simp[hr] at h1; subst h1
  have hi:i<row.length:=by
   rcases CU i row.length with k|k
   ·exact k
   ·rw[Ea k] at hr; simp at hr
  simp[DR,OJ hi] at h2;subst h2;exact .pv (h i p hr)
theorem dB {P:Program} {t:TypeId} {off:Nat} (v:AV):partOf P t [] off≠some v:=by
 unfold partOf;split
 ·rename_i d i _ _
  have many:(if off+i.size<=([]:List AV).length/\i.size≠0 then some (AV.agg ((([]:List AV).drop off).take i.size)) else none)≠some v:=by
   rw[if_neg (by simp)]; exact fun h=>by cases h
  cases d <;> first|exact many|simp
 ·simp
theorem L9 {E:Env} {g:AH} {w:World} {s:AK} (hI:Inv E g w s) {t:TypeId} {x v:AV} {xv:Value} (hx:V g w x xv) (h:NM E s t x=some v) :
  ∃ v',(Instr.loadAt t xv).run E.P w=.ok v' w/\V g w v v':=by
 unfold NM at h;split at h
 ·rename_i id off
  split at h
  ·rename_i cs hcs
   cases hx with
   | @ptr _ _ b hb=>
    obtain⟨cs',vs,e,h1,h2,hle,h3⟩:=hI.blk id b hb;simp only[Qh] at hcs;rw[hcs] at h1; simp at h1; subst h1
    have:=XT (P:=E.P) (b:=b) (o:=0) h3 (fun j u hj=>by
     rw[Bd h2];rw[CT] at hj;split at hj
     ·simpa using hj
     ·simp at hj) h
    simpa using this
   | Ki hd=>
    have:=hI.DM id hd;simp only[Qh] at hcs;rw[hcs] at this; simp at this; subst this;exact absurd h (dB _)
  ·simp at h
 ·rename_i gl off
  split at h
  ·rename_i row hrow
   cases hx with
   | De=>
    have hg:=hI.Ey gl row hrow
    have hex:∀ j,∃ v,∀ c,row[j]?=some c->g.I gl j/\w.cell? ⟨gl,j,none⟩=some v/\VP g.I w c v:=by
     intro j;cases hj:row[j]? with
     | none=>exact⟨undef,by simp⟩
     | some c=>
      obtain⟨v,hv⟩:=hg j c hj;exact⟨v,fun c' Hl=>by simp at Hl; subst Hl; exact hv⟩
    have hf:=fun j=>Classical.choose_spec (hex j)
    have hl:=iH (g:=g) (w:=w) (row:=row) (f:=fun j=>Classical.choose (hex j)) (fun j c hc=>(hf j c hc).2.2)
    have:=XT (P:=E.P) (b:=gl) (o:=0) hl (fun j u hj=>by
     have hi:j<row.length:=by
      rcases CU j row.length with k|k
      ·exact k
      ·rw[Ea (by simp; exact k)] at hj; simp at hj
     simp[DR,OJ hi] at hj;subst hj;have:=(hf j row[j] (by simp[hi])).2.1;simpa using this) h
    simpa using this
  ·simp at h
 ·rename_i row off
  cases hx with
  | @DK _ b o _ f hr=>
   have hl:=iH (g:=g) (w:=w) (row:=row) (f:=f) (fun j c hc=>(hr j c hc).2.2)
   exact XT (P:=E.P) (b:=b) (o:=o) hl (fun j u hj=>by
    have hi:j<row.length:=by
     rcases CU j row.length with k|k
     ·exact k
     ·rw[Ea (by simp; exact k)] at hj; simp at hj
    simp[DR,OJ hi] at hj;subst hj;exact(hr j row[j] (by simp[hi])).2.1) h
 ·simp at h
theorem XU {P:Program} {g:AH} {w:World} {cs:List AV} {us:List Value} {off:Nat} {t:TypeId} {v:AV}
  (hl:VL g w cs us) (hp:partOf P t cs off=some v):∃ v',(part t ⟨us⟩ off).run P w=.ok v' w/\V g w v v':=by
 unfold partOf at hp;split at hp
 ·rename_i d i hd hi
  have one:cs[off]?=some v->∃ u,us[off]?=some u/\V g w v u:=fun hv=>hl.get hv
  have many:(if off+i.size<=cs.length/\i.size≠0 then some (AV.agg ((cs.drop off).take i.size)) else none)=some v->V g w v (.agg ((⟨us⟩:Array Value).extract off (off+i.size))):=by
   intro hv;split at hv
   ·simp at hv; subst hv
    have hk:=(hl.drop off).take i.size
    have e:(⟨us⟩:Array Value).extract off (off+i.size)=⟨(us.drop off).take i.size⟩:=by
     apply D9;simp
    rw[e];exact V.lJ hk
   ·simp at hv
  cases d with
  | struct fs=>exact⟨_,by simp only[part,isAgg,Sem.run_bind,run_underlying hd,Result.andThen_ok,Sem.run_pure,Dr,run_sizeOf hi],many hp⟩
  | array n e=>exact⟨_,by simp only[part,isAgg,Sem.run_bind,run_underlying hd,Result.andThen_ok,Sem.run_pure,Dr,run_sizeOf hi],many hp⟩
  | _=>
   obtain⟨u,h1,h2⟩:=one hp;exact⟨u,by simp[part,isAgg,run_underlying hd,h1],h2⟩
 ·simp at hp
def Bt (vs:List Value) (k:Nat):List Value->List Value
 | []=>vs
 | u::us=>Bt (vs.set k u) (k+1) us
theorem BJ (us:List Value):∀ (vs:List Value) (k:Nat),(Bt vs k us).length=vs.length:=by
 induction us with
 | nil=>intro vs k; rfl
 | cons u us ih=>intro vs k; simp[Bt,ih]
theorem Fb (us:List AV):∀ (vs:List AV) (k:Nat),(setCells vs k us).length=vs.length:=by
 induction us with
 | nil=>intro vs k; rfl
 | cons u us ih=>intro vs k; simp[setCells,ih]
theorem VL.setCells {g:AH} {w:World} {us:List AV}:∀ {cs:List AV} {vs ws:List Value} (k:Nat),VL g w cs vs->VL g w us ws->VL g w (setCells cs k us) (Bt vs k ws):=by
 induction us with
 | nil=>intro cs vs ws k h1 h2; rw[h2.Ee]; exact h1
 | cons u us ih=>
  intro cs vs ws k h1 h2;obtain⟨x,xs,rfl,h3,h4⟩:=h2.cases;exact ih (k+1) (h1.set k h3) h4
def A2 (w:World) (b:Nat) (vs:List Value) (e:TypeId) (fz:Nat×Nat:=(0,0)):World:={ w with heap:=w.heap.setIfInBounds b (.cells ⟨vs⟩ e fz) }
theorem BR (w:World) (b:Nat) (vs:List Value) (e:TypeId) (k:Nat) {fz:Nat×Nat} :
  (A2 w b vs e fz).heap[k]?=if b=k then(if k<w.heap.size then some (.cells ⟨vs⟩ e fz) else none) else w.heap[k]?:=by
 simp only[A2,Ww];split
 ·rename_i h; subst h; rfl
 ·rfl
theorem BI {α:Type} {l:Array α} {i:Nat} {x:α} (h:l[i]?=some x):i<l.size:=by
 rcases CU i l.size with k|k
 ·exact k
 ·simp[ID k] at h
theorem Bl {α:Type} {l:List α} {i:Nat} {x:α} (h:l[i]?=some x):i<l.length:=by
 rcases CU i l.length with k|k
 ·exact k
 ·simp[Ea k] at h
theorem Ho {w w':World} (h1:w.heap=w'.heap) (h2:w.tape=w'.tape) (h3:w.drawn=w'.drawn) (h4:w.os=w'.os) (h5:w.output=w'.output):w=w':=by
 cases w; cases w'; simp_all
theorem LL {w:World} {b:Nat} {vs:List Value} {e:TypeId} {fz:Nat×Nat} (h:w.heap[b]?=some (.cells ⟨vs⟩ e fz)):A2 w b vs e fz=w:=by
 refine Ho ?_ rfl rfl rfl rfl;apply Mi;intro k;rw[BR];split
 ·rename_i hk; subst hk; rw[if_pos (BI h),h]
 ·rfl
theorem ZF {w:World} {b o:Nat} {vs:List Value} {e:TypeId} {v:Value} {fz:Nat×Nat} (h:w.heap[b]?=some (.cells ⟨vs⟩ e fz)) :
  w.setCell ⟨b,o,none⟩ v=A2 w b (vs.set o v) e fz:=by
 refine Ho ?_ rfl rfl rfl rfl;apply Mi;intro k;rw[BR];simp only[World.setCell,gv];split
 ·rename_i hk; subst hk; rw[if_pos (BI h),h]; simp
 ·rfl
theorem EW {w:World} {b:Nat} {vs us:List Value} {e:TypeId} {fz:Nat×Nat}:A2 (A2 w b vs e fz) b us e fz=A2 w b us e fz:=by
 simp[A2]
theorem Fc {P:Program} {b o:Nat} {e:TypeId} {fz:Nat×Nat} (hfz:fz.2<=o) (us:List Value):∀ (i:Nat) (w:World) (vs:List Value),(∀ u∈us,u.oneCell'=true) ->
  w.heap[b]?=some (.cells ⟨vs⟩ e fz)->o+i+us.length<=vs.length ->
  (storeCells ⟨b,o,none⟩ us i).run P w=.ok () (A2 w b (Bt vs (o+i) us) e fz):=by
 induction us with
 | nil=>intro i w vs _ h _; simp[storeCells,Bt,LL h]
 | cons u us ih=>
  intro i w vs hu h hle;simp only[A3] at hle;have hc:w.cell? ⟨b,o+i,none⟩=some vs[o+i]:=by rw[Bd h]; exact Ak (by omega)
  have hf:w.frozen? ⟨b,o+i,none⟩=false:=by
   obtain⟨lo,hi⟩:=fz;simp only[World.frozen?,h];simp only at hfz;have:¬ (o+i<hi):=by omega
   simp[this]
  simp only[storeCells,Sem.run_bind,DW];rw[run_store _ _ _ _ _ (hu u (by simp))];simp only[hc,hf,Result.andThen_ok,Cc,Dk];rw[ZF h]
  have h':(A2 w b (vs.set (o+i) u) e fz).heap[b]?=some (.cells ⟨vs.set (o+i) u⟩ e fz):=by
   rw[BR,if_pos rfl,if_pos (BI h)]
  rw[ih (i+1) _ (vs.set (o+i) u) (fun x hx=>hu x (by simp[hx])) h' (by simp; omega),EW];rfl
theorem F8 {P:Program} {b o:Nat} {e:TypeId} (us:List Value) (i:Nat) (w:World) (vs:List Value) (hu:∀ u∈us,u.oneCell'=true)
  (h:w.heap[b]?=some (.cells ⟨vs⟩ e (0,0))) (hle:o+i+us.length<=vs.length) :
  (storeCells ⟨b,o,none⟩ us i).run P w=.ok () (A2 w b (Bt vs (o+i) us) e):=Fc (AM o) us i w vs hu h hle
theorem Bn {w w':World} {b:Nat} (h:w'.heap[b]?=w.heap[b]?) (o:Nat):w'.cell? ⟨b,o,none⟩=w.cell? ⟨b,o,none⟩:=by
 simp[World.cell?,h]
theorem Be {w:World} {b:Nat} {vs:List Value} {e:TypeId} {fz:Nat×Nat} (h:w.heap[b]?=some (.cells ⟨vs⟩ e fz)):w.shape? b=some (e,vs.length):=by
 simp[World.shape?,h]
theorem Inv.putRow {E:Env} {L:A0} {g:AH} {w:World} {s:AK} (h:Inv E g w s) {id b:Nat} {cs':List AV} {vs vs':List Value} {e:TypeId}
  (hb:g.blk id=some b) (hh:w.heap[b]?=some (.cells ⟨vs⟩ e (0,0))) (hvl:vs'.length=vs.length) (hro:L.ro<=id) (hle:cs'.length<=vs'.length) (hl:VL g w cs' (vs'.take cs'.length)) :
  Ext L g w g (A2 w b vs' e)/\Inv E g (A2 w b vs' e) { s with bs:=s.bs.set id cs' }:=by
 have hlt:=h.C4 hb;have hne:∀ k,k≠b->(A2 w b vs' e).heap[k]?=w.heap[k]?:=fun k hk=>by rw[BR,if_neg (fun h=>hk h.symm)]
 have ZG:(A2 w b vs' e).heap[b]?=some (.cells ⟨vs'⟩ e (0,0)):=by rw[BR,if_pos rfl,if_pos hlt]
 have hsz:(A2 w b vs' e).heap.size=w.heap.size:=by simp[A2]
 have ext:Ext L g w g (A2 w b vs' e):={
  os:=rfl,tape:=rfl,output:=rfl,size:=by rw[hsz]; exact AL _
  mono:=fun _ _ hi=>hi
  cell:=fun k o hi=>Bn (hne k (fun hk=>h.FT id b o hb (hk ▸ hi))) o
  blk:=fun _ _ hi=>.inl hi
  dead:=fun _ hi=>hi
  shape:=fun id' b' hb' _=>by
   by_cases hk:b'=b
   ·subst hk; rw[Be ZG,Be hh,hvl]
   ·exact DC (hne b' hk)
  tok:=fun _ l hl=>⟨l,hl,.inl rfl⟩
  Fa:=fun id' b' hb' hlt'=>⟨hb',hne b' (fun hk=>by subst hk; have:=h.ET id id' b' hb hb'; omega)⟩
  FI:=fun t l hl _=>⟨hl,hne _ (fun hk=>h.Cp id b t l hb hl hk.symm),fun _ ho=>ho⟩
  out:=fun k _ h1 _ _=>⟨hne k (fun hk=>h1 id (hk ▸ hb)),fun _ ho=>ho⟩
  mp:=fun _ _ hb=>hb
  FJ:=fun _ b' hb'=>⟨fun _=>hne b' (fun hk=>h.yD hb' (hk ▸ hb)),fun _ ho=>ho⟩
  JT:=fun id' _ hb _=>⟨id',hb⟩
  Gk:=fun id' _ hb _=>⟨id',hb⟩
  C1:=fun _ h=>h
  JU:=fun _ l hl _=>⟨l,hl,rfl⟩ }
 refine⟨ext,?_⟩
 exact {
  EB:=fun id' b' hb'=>by simpa using h.EB id' b' hb'
  DL:=fun id' hd=>by simpa using h.DL id' hd
  DM:=fun id' hd=>by
   have hid:id≠id':=fun e=>by subst e; have:=g.hd _ hd; rw[this] at hb; simp at hb
   simp only[Cd hid]; exact h.DM id' hd
  blk:=fun id' b' hb'=>by
   by_cases hid:id'=id
   ·subst hid
    have:b'=b:=by rw[hb] at hb'; simpa using hb'.symm
    subst this;exact⟨cs',vs',e,by simp[h.EB _ _ hb],ZG,hle,hl.mono ext⟩
   ·obtain⟨cs,us,e',h1,h2,h3,h4⟩:=h.blk id' b' hb'
    exact⟨cs,us,e',by simp only[Cd (Ce hid)]; exact h1,by rw[hne b' (fun hk=>hid (h.ET id' id b' hb' (hk ▸ hb)))]; exact h2,h3,h4.mono ext⟩
  FT:=h.FT
  F6:=h.F6
  F7:=h.F7
  tok:=fun t l hl=>by
   obtain⟨us,e',h1,h2⟩:=h.tok t l hl;exact⟨us,e',by rw[hne _ (fun hk=>h.Cp id b t l hb hl hk.symm)]; exact h1,h2⟩
  GV:=h.GV
  ET:=h.ET
  Fi:=h.Fi
  Cp:=h.Cp
  Il:=fun k o hi=>by rw[hsz]; exact h.Il k o hi
  EG:=fun id hid=>h.EG id (by simpa using hid)
  mp:=h.Hj (fun id' b' hb'=>Cd (h.lI hb hb')) (fun id' b' hb'=>hne b' (fun hk=>h.yD hb' (hk ▸ hb)))
  KM:=h.KM
  GU:=h.GU
  DV:=fun id hp=>by obtain⟨a,b,c⟩:=h.DV id hp; exact⟨by simpa using a,b,c⟩
  Ey:=fun gl row hr j c hj=>by
   obtain⟨v,h1,h2,h3⟩:=h.Ey gl row hr j c hj;exact⟨v,h1,by rw[ext.cell _ _ h1]; exact h2,h3.mono ext.mono ext.cell⟩
  C3:=fun gl row hr=>by
   obtain⟨h1,h2⟩:=h.C3 gl row hr;exact⟨h1,by rw[ext.cell _ _ h1]; exact h2⟩ }
theorem VI (us:List Value):∀ (vs:List Value) (k n:Nat),(Bt vs k us).take n=Bt (vs.take n) k us:=by
 induction us with
 | nil=>intro vs k n; rfl
 | cons u us ih=>
  intro vs k n;simp only[Bt];rw[ih,Wx]
theorem XV {E:Env} {L:A0} {g:AH} {w:World} {s s':AK} (hI:Inv E g w s) {t:TypeId} {a x:AV} {av xv:Value}
  (ha:V g w a av) (hx:V g w x xv) (h:Ni E L s t a x=some s') :
  ∃ w',(Instr.storeAt t av xv).run E.P w=.ok () w'/\Ext L g w g w'/\Inv E g w' s':=by
 unfold Ni at h;split at h
 ·rename_i id off i hi
  split at h
  ·rename_i cs hcs
   simp only at h;split at h
   ·rename_i hc
    obtain⟨h1,h2,h3,h4,_,hi0⟩:=hc;simp at h; subst h;simp only[Qh] at hcs;cases ha with
    | Ki hd=>
     have:=hI.DM id hd;rw[hcs] at this; simp at this; subst this;rw[h1] at h2; simp at h2; omega
    | @ptr _ _ b hb=>
     obtain⟨cs',vs,e,k1,k2,wM,k3⟩:=hI.blk id b hb;rw[hcs] at k1; simp at k1; subst k1;have hv:=El hx h4
     have hone:∀ u∈xv.cells.toList,u.oneCell'=true:=by
      intro u hu;obtain⟨j,hj,rfl⟩:=OK.1 hu;have hj':j<(cellsOf x).length:=by rw[hv.len]; exact hj
      exact JV (hv.at_ j (cellsOf x)[j] _ (by simp[hj']) (by simp)) (by
       have:=Bs.1 h4 (cellsOf x)[j] (by simp); exact this)
     have hlen:xv.cells.size=i.size:=by rw[<-DS,<-hv.len]; exact h1
     refine⟨_,?_,(hI.putRow (vs':=Bt vs off xv.cells.toList) (cs':=setCells cs off (cellsOf x)) hb k2 (BJ _ _ _) h3 (by rw[Fb,BJ]; exact wM) (by rw[Fb,VI]; exact VL.setCells off k3 hv))⟩;simp only[Instr.storeAt,Instr.sureAddr,storeVar,Sem.run_bind,Sem.run_pure,Result.andThen_ok,run_sizeOf hi,hlen,ne_eq,K7,Dk];have:=F8 (P:=E.P) (b:=b) (o:=off) (e:=e) xv.cells.toList 0 w vs hone k2 (by rw[<-hv.len]; omega);simpa using this
   ·simp at h
  ·simp at h
 ·simp at h
theorem VL.full {g:AH} {w:World} {cs:List AV} {vs:List Value} (h:VL g w cs vs):cs.length<=vs.length/\VL g w cs (vs.take cs.length):=
 ⟨by rw[h.len]; exact AL _,by rw[h.len,RZ]; exact h⟩
def CO (w:World) (vs:List Value) (e:TypeId):World:={ w with heap:=w.heap.push (.cells ⟨vs⟩ e (0,0)) }
theorem Bm (w:World) (vs:List Value) (e:TypeId) (k:Nat) :
  (CO w vs e).heap[k]?=if k=w.heap.size then some (.cells ⟨vs⟩ e (0,0)) else w.heap[k]?:=by
 simp[CO,Array.getElem?_push]
theorem Aw {w:World} {vs:List Value} {e:TypeId} {k:Nat} (h:k<w.heap.size):(CO w vs e).heap[k]?=w.heap[k]?:=by
 rw[Bm,if_neg (by omega)]
def AH.F1 (g:AH) (id b:Nat) (h:¬ g.dead id):AH:={ g with blk:=fun i=>if i=id then some b else g.blk i,hd:=fun i hi=>(if_neg (fun e:i=id=>h (e ▸ hi))).trans (g.hd i hi) }
def AH.dD (g:AH) (J:Nat->Nat->Prop):AH:={ g with I:=fun b o=>g.I b o\/J b o }
theorem Inv.fresh {E:Env} {g:AH} {w:World} {s:AK} (h:Inv E g w s):¬ g.dead s.bs.length:=fun hd=>by have:=h.DL _ hd; omega
theorem Inv.AHO {E:Env} {g:AH} {w:World} {s:AK} {r:List AV} {t:TypeId} {b:Nat} (h:Inv E g w { s with bs:=s.bs++[.pv (.sc (.pointer none))::r] }) (hb:g.blk s.bs.length=some b)
  (hs:w.shape? b=some (t,r.length+1)):Inv E g w { s with bs:=s.bs++[.bz s.bs.length t (r.length+1)::r] }:=by
 have hne:∀ (i:Nat) (a c:List AV),i≠s.bs.length->(s.bs++[a])[i]?=(s.bs++[c])[i]?:=fun i a c hi=>by
  rcases CU i s.bs.length with q|q
  ·rw[BA q,BA q]
  ·rw[Ea (by simp; omega),Ea (by simp; omega)]
 exact {
  EB:=fun id b' hb'=>by have:=h.EB id b' hb'; simpa using this
  DL:=fun id hd=>by have:=h.DL id hd; simpa using this
  blk:=fun id b' hb'=>by
   obtain⟨cs,vs,e,h1,h2,h3,h4⟩:=h.blk id b' hb'
   by_cases hid:id=s.bs.length
   ·subst hid
    have:b'=b:=by rw[hb] at hb'; simpa using hb'.symm
    subst this;simp at h1;subst h1;refine⟨.bz s.bs.length t (r.length+1)::r,vs,e,by simp,h2,by simpa using h3,?_⟩;cases vs with
    | nil=>simp at h3
    | cons u us=>
     simp only[A3,List.take_succ_cons] at h4 ⊢;have:=h4.head.CM;subst this;exact .cons (.bz hb hs) h4.tail
   ·exact⟨cs,vs,e,(hne id _ _ hid).trans h1,h2,h3,h4⟩
  FT:=h.FT
  DM:=fun id hd=>by
   have hid:id≠s.bs.length:=fun e=>by have:=g.hd id hd; rw[e,hb] at this; simp at this
   exact(hne id _ _ hid).trans (h.DM id hd)
  DV:=fun id hp=>by obtain⟨a,c⟩:=h.DV id hp; exact⟨by simpa using a,c⟩
  EG:=fun id hid=>h.EG id (by simpa using hid)
  mp:=h.Hj (fun id b' hb'=>hne id _ _ fun e=>by have:=(h.KM id b' hb').1; rw[e,hb] at this; simp at this) (fun _ _ _=>rfl)
  KM:=h.KM
  GU:=h.GU
  F6:=h.F6,F7:=h.F7,tok:=h.tok,GV:=h.GV,ET:=h.ET,Fi:=h.Fi,Cp:=h.Cp,Il:=h.Il
  Ey:=h.Ey
  C3:=h.C3 }
theorem Inv.NN {E:Env} {g:AH} {w:World} {s:AK} {z:List AV} {t:TypeId} {b:Nat} (h:Inv E g w { s with bs:=s.bs++[z] }) (hb:g.blk s.bs.length=some b) (hs:w.shape? b=some (t,z.length)) :
  Inv E g w { s with bs:=s.bs++[Tel.NN E s.bs.length t z] }:=by
 unfold Tel.NN;cases E.bz t with
 | false=>exact h
 | true=>
  simp only[AE];split
  ·exact h.AHO hb (by simpa using hs)
  ·exact h
theorem Inv.Qi {E:Env} {L:A0} {g:AH} {w:World} {s:AK} (h:Inv E g w s) {cs:List AV} {vs:List Value} (e:TypeId) (hle:cs.length<=vs.length) (hl:VL g w cs (vs.take cs.length)) :
  Ext L g w (g.F1 s.bs.length w.heap.size h.fresh) (CO w vs e)/\Inv E (g.F1 s.bs.length w.heap.size h.fresh) (CO w vs e) { s with bs:=s.bs++[cs] }:=by
 have hsz:(CO w vs e).heap.size=w.heap.size+1:=by simp[CO]
 have hne:∀ id b,g.blk id=some b->id≠s.bs.length:=fun id b hb=>Wy (h.EB id b hb)
 have nR:∀ id b,g.blk id=some b->(g.F1 s.bs.length w.heap.size h.fresh).blk id=some b:=fun id b hb=>by simp[AH.F1,hne id b hb,hb]
 have inv:∀ id b,(g.F1 s.bs.length w.heap.size h.fresh).blk id=some b->(id=s.bs.length/\b=w.heap.size)\/g.blk id=some b:=fun id b hb=>by
  simp only[AH.F1] at hb;split at hb
  ·simp at hb; exact .inl ⟨by assumption,hb.symm⟩
  ·exact .inr hb
 have ext:Ext L g w (g.F1 s.bs.length w.heap.size h.fresh) (CO w vs e):={
  os:=rfl,tape:=rfl,output:=rfl,size:=by rw[hsz]; exact Mj _
  mono:=fun _ _ hi=>hi
  cell:=fun k o hi=>Bn (Aw (h.Il k o hi)) o
  blk:=fun id b hb=>.inl (nR id b hb)
  dead:=fun _ hd=>hd
  shape:=fun id b hb _=>DC (Aw (h.C4 hb))
  tok:=fun _ l hl=>⟨l,hl,.inl rfl⟩
  Fa:=fun id b hb _=>⟨nR id b hb,Aw (h.C4 hb)⟩
  FI:=fun t l hl _=>⟨hl,Aw (h.EE hl),fun _ ho=>ho⟩
  out:=fun k hk _ _ _=>⟨Aw hk,fun _ ho=>ho⟩
  mp:=fun _ _ hb=>hb
  FJ:=fun _ b' hb'=>⟨fun _=>Aw (h.I9 hb'),fun _ ho=>ho⟩
  JT:=fun id' _ hb _=>⟨id',hb⟩
  Gk:=fun id b hb hlt=>by
   rcases inv id b hb with ⟨_,rfl⟩|hb
   ·omega
   ·exact⟨id,hb⟩
  C1:=fun _ h=>h
  JU:=fun _ l hl _=>⟨l,hl,rfl⟩ }
 refine⟨ext,?_⟩
 exact {
  EB:=fun id b hb=>by
   rcases inv id b hb with ⟨rfl,_⟩|hb
   ·simp
   ·have:=h.EB id b hb; simp; omega
  DL:=fun id hd=>by have:=h.DL id hd; simp; omega
  DM:=fun id hd=>by rw[BA (h.DL id hd)]; exact h.DM id hd
  blk:=fun id b hb=>by
   rcases inv id b hb with ⟨rfl,rfl⟩|hb
   ·exact⟨cs,vs,e,by simp,by rw[Bm,if_pos rfl],hle,hl.mono ext⟩
   ·obtain⟨cs',us,e',h1,h2,h3,h4⟩:=h.blk id b hb
    exact⟨cs',us,e',by simp only[BA (h.EB id b hb)]; exact h1,by rw[Aw (h.C4 hb)]; exact h2,h3,h4.mono ext⟩
  FT:=fun id b o hb hi=>by
   rcases inv id b hb with ⟨_,rfl⟩|hb
   ·have:=h.Il _ o hi; omega
   ·exact h.FT id b o hb hi
  F6:=h.F6
  F7:=h.F7
  tok:=fun t l hl=>by
   obtain⟨us,e',h1,h2⟩:=h.tok t l hl;exact⟨us,e',by rw[Aw (h.EE hl)]; exact h1,h2⟩
  GV:=h.GV
  ET:=fun id id' b hb hb'=>by
   rcases inv id b hb with ⟨e1,rfl⟩|hb
   ·rcases inv id' _ hb' with ⟨e2,_⟩|hb'
    ·rw[e1,e2]
    ·have:=h.C4 hb'; omega
   ·rcases inv id' b hb' with ⟨_,rfl⟩|hb'
    ·have:=h.C4 hb; omega
    ·exact h.ET id id' b hb hb'
  Fi:=h.Fi
  Cp:=fun id b t l hb hl=>by
   rcases inv id b hb with ⟨_,rfl⟩|hb
   ·have:=h.EE hl; omega
   ·exact h.Cp id b t l hb hl
  Il:=fun k o hi=>by rw[hsz]; have:=h.Il k o hi; omega
  EG:=fun id hid=>by
   by_cases e:id=s.bs.length
   ·exact .inl ⟨_,if_pos e⟩
   ·rcases h.EG id (by simp at hid; omega) with ⟨b,hb⟩|q
    ·exact .inl ⟨b,(if_neg e).trans hb⟩
    ·exact .inr q
  mp:=h.Hj (fun id' b' hb'=>BA (h.lH hb')) (fun id' b' hb'=>Aw (h.I9 hb'))
  KM:=fun id b hb=>by
   obtain⟨a1,a2,a3⟩:=h.KM id b hb;exact⟨(if_neg (Wy (h.lH hb))).trans a1,a2,a3⟩
  GU:=h.GU
  DV:=fun id hp=>by
   obtain⟨a,b,c⟩:=h.DV id hp;exact⟨by simp; omega,(if_neg (by omega)).trans b,c⟩
  Ey:=fun gl row hr j c hj=>by
   obtain⟨v,h1,h2,h3⟩:=h.Ey gl row hr j c hj;exact⟨v,h1,by rw[ext.cell _ _ h1]; exact h2,h3.mono ext.mono ext.cell⟩
  C3:=fun gl row hr=>by
   obtain⟨h1,h2⟩:=h.C3 gl row hr;exact⟨h1,by rw[ext.cell _ _ h1]; exact h2⟩ }
def HE (w:World) (o:Obj):World:={ w with heap:=w.heap.push o }
theorem Hp (w:World) (o:Obj) (k:Nat):(HE w o).heap[k]?=if k=w.heap.size then some o else w.heap[k]?:=by simp[HE,Array.getElem?_push]
theorem BD {w:World} {o:Obj} {k:Nat} (h:k<w.heap.size):(HE w o).heap[k]?=w.heap[k]?:=by rw[Hp,if_neg (by omega)]
theorem Inv.ZH {E:Env} {L:A0} {g:AH} {w:World} {s:AK} (h:Inv E g w s) (o:Obj) :
  Ext L g w (g.dD fun b _=>b=w.heap.size) (HE w o)/\Inv E (g.dD fun b _=>b=w.heap.size) (HE w o) s:=by
 have hsz:(HE w o).heap.size=w.heap.size+1:=by simp[HE]
 have ext:Ext L g w (g.dD fun b _=>b=w.heap.size) (HE w o):={
  os:=rfl,tape:=rfl,output:=rfl,size:=by rw[hsz]; exact Mj _
  mono:=fun _ _ hi=>.inl hi
  cell:=fun k o hi=>Bn (BD (h.Il k o hi)) o
  blk:=fun _ _ hb=>.inl hb
  dead:=fun _ hd=>hd
  shape:=fun id b hb _=>DC (BD (h.C4 hb))
  tok:=fun _ l hl=>⟨l,hl,.inl rfl⟩
  Fa:=fun id b hb _=>⟨hb,BD (h.C4 hb)⟩
  FI:=fun t l hl _=>⟨hl,BD (h.EE hl),fun o ho=>ho.resolve_right (fun e=>by have:=h.EE hl; omega)⟩
  out:=fun k hk _ _ _=>⟨BD hk,fun o ho=>ho.resolve_right (fun e=>by omega)⟩
  mp:=fun _ _ hb=>hb
  FJ:=fun _ b' hb'=>⟨fun _=>BD (h.I9 hb'),fun o ho=>ho.resolve_right (fun e=>by have:=h.I9 hb'; omega)⟩
  JT:=fun id' _ hb _=>⟨id',hb⟩
  Gk:=fun id _ hb _=>⟨id,hb⟩
  C1:=fun _ h=>h
  JU:=fun _ l hl _=>⟨l,hl,rfl⟩ }
 refine⟨ext,?_⟩
 exact {
  EB:=h.EB
  DL:=h.DL
  DM:=h.DM
  blk:=fun id b hb=>by
   obtain⟨cs',us,e',h1,h2,h3,h4⟩:=h.blk id b hb;exact⟨cs',us,e',h1,by rw[BD (h.C4 hb)]; exact h2,h3,h4.mono ext⟩
  FT:=fun id b o hb hi=>by
   rcases hi with hi|hi
   ·exact h.FT id b o hb hi
   ·have:=h.C4 hb; omega
  F6:=h.F6
  F7:=h.F7
  tok:=fun t l hl=>by
   obtain⟨us,e',h1,h2⟩:=h.tok t l hl;exact⟨us,e',by rw[BD (h.EE hl)]; exact h1,h2⟩
  GV:=fun t l o hl hle hi=>by
   rcases hi with hi|hi
   ·exact h.GV t l o hl hle hi
   ·have:=h.EE hl; omega
  ET:=h.ET
  Fi:=h.Fi
  Cp:=h.Cp
  Il:=fun k o hi=>by
   rw[hsz];rcases hi with hi|hi
   ·have:=h.Il k o hi; omega
   ·omega
  EG:=h.EG
  mp:=h.Hj (fun _ _ _=>rfl) (fun _ _ hb'=>BD (h.I9 hb'))
  KM:=h.KM
  GU:=h.GU
  DV:=h.DV
  Ey:=fun gl row hr j c hj=>by
   obtain⟨v,h1,h2,h3⟩:=h.Ey gl row hr j c hj;exact⟨v,.inl h1,by rw[ext.cell _ _ h1]; exact h2,h3.mono ext.mono ext.cell⟩
  C3:=fun gl row hr=>by
   obtain⟨h1,h2⟩:=h.C3 gl row hr;exact⟨.inl h1,by rw[ext.cell _ _ h1]; exact h2⟩ }
theorem Inv.AAQ {E:Env} {L:A0} {g:AH} {w:World} {s:AK} (h:Inv E g w s) (vs:List Value) (e:TypeId) :
  Ext L g w (g.dD fun b _=>b=w.heap.size) (CO w vs e)/\Inv E (g.dD fun b _=>b=w.heap.size) (CO w vs e) s:=h.ZH _
theorem oJ (us:List Value):∀ (vs:List Value) (off j:Nat),
  ((us.toArray.zipIdx j).foldl (fun(cs:Array Value) (p:Value×Nat)=>cs.setIfInBounds (off+p.2) p.1) ⟨vs⟩)=⟨Bt vs (off+j) us⟩:=by
 induction us with
 | nil=>intro vs off j; rw[<-Array.foldl_toList]; simp[Bt]
 | cons u us ih=>
  intro vs off j;have:=ih (vs.set (off+j) u) off (j+1);rw[<-Array.foldl_toList] at this ⊢;simp only[Array.toList_zipIdx,List.zipIdx_cons,List.foldl_cons,Bt,List.setIfInBounds_toArray] at this ⊢;rw[this];rfl
theorem Nn {g:AH} {w:World} {place:Nat->Option (Nat×Nat)} (parts:List (Nat×AV)):∀ {ps:List (Nat×Value)} {cs cs':List AV} {vs:List Value},
  parts.map (·.1)=ps.map (·.1)->(∀ (i:Nat) (p:Nat×AV) (q:Nat×Value),parts[i]?=some p->ps[i]?=some q->V g w p.2 q.2)->VL g w cs vs ->
  Lp place cs parts=some cs'->∃ vs',Instr.fill place ⟨vs⟩ ps=some ⟨vs'⟩/\VL g w cs' vs':=by
 induction parts with
 | nil=>
  intro ps cs cs' vs hk _ hl h;have:ps=[]:=by simpa using hk.symm
  subst this;simp[Lp] at h; subst h;exact⟨vs,rfl,hl⟩
 | cons p parts ih=>
  intro ps cs cs' vs hk hv hl h;cases ps with
  | nil=>simp at hk
  | cons q ps=>
   obtain⟨i,x⟩:=p;obtain⟨i',y⟩:=q;simp at hk;obtain⟨rfl,hk⟩:=hk;simp only[Lp] at h;simp only[Instr.fill];cases hp:place i with
   | none=>simp[hp] at h
   | some os=>
    obtain⟨off,size⟩:=os;simp only[hp] at h;split at h
    ·rename_i hn
     obtain⟨h1,h2,hok⟩:=hn;have hxy:V g w x y:=hv 0 (i,x) (i,y) rfl rfl;have hc:=El hxy hok;have hlen:y.cells.size=(cellsOf x).length:=by rw[hc.len]; simp
     have hvl:=hl.len
     have hif:(decide (y.cells.size≠size)||decide (off+y.cells.size>(⟨vs⟩:Array Value).size))=false:=by
      simp[hlen,h1]; omega
     simp only[hif,Cc,Dk];have e:=oJ y.cells.toList vs off 0;simp only[Fp,Dq] at e;rw[e];exact ih hk (fun j p q hp hq=>hv (j+1) p q (by simpa using hp) (by simpa using hq)) (VL.setCells off hl hc) h
    ·simp at h
theorem Dw {P:Program} {g:AH} {w:World} {t:TypeId} {z:List AV} (h:zeroOf P t=some z) :
  ∃ i v,P.info? t=some i/\i.zero=some v/\(zeroValue t).run P w=.ok v w/\VL g w z v.cells.toList:=by
 unfold zeroOf at h;split at h
 ·rename_i i hi
  split at h
  ·rename_i v hv
   simp at h; subst h;refine⟨i,v,hi,hv,by simp[zeroValue,run_typeInfo hi,hv],?_⟩;cases v with
   | agg cs=>exact VL.map V.HZ cs.toList
   | tuple vs=>exact .cons (V.tuple' (VL.yE vs.toList)) .nil
   | slice a n c=>
    have:cellsOf (ofConst (.slice a n c))=[HZ (.slice a n c)]:=by
     simp only[ofConst,HZ];split <;> rfl
    rw[this];exact .cons (V.HZ _) .nil
   | _=>exact .cons (V.IW _) .nil
  ·simp at h
 ·simp at h
theorem VJ {g:AH} {w:World} {ρ:Nat->AV} {a:Act} (hρ:∀ t,V g w (ρ t) (a.tmps.getD t undef)) (parts:Array (Nat×Operand)) :
  (parts.toList.map fun p=>(p.1,AP ρ p.2)).map (·.1)=((parts.map fun(i,x)=>(i,a.eval x)).toList).map (·.1) /\
  ∀ (i:Nat) p q,(parts.toList.map fun p=>(p.1,AP ρ p.2))[i]?=some p->((parts.map fun(i,x)=>(i,a.eval x)).toList)[i]?=some q->V g w p.2 q.2:=by
 constructor
 ·simp
 ·intro i p q hp hq
  simp only[Array.toList_map,DR] at hp hq;cases h:parts.toList[i]? with
  | none=>simp[h] at hp
  | some r=>
   simp[h] at hp hq;subst hp; subst hq;exact AO hρ r.2
structure Flat (I:Nat->Nat->Prop) (w:World) (rows:List (List PV)) (sz:Nat) (us:List Value):Prop where
 len:us.length=rows.length*sz
 hsz:∀ row∈rows,row.length=sz
 at_:∀ i row j c,rows[i]?=some row->row[j]?=some c->∃ u,us[i*sz+j]?=some u/\VP I w c u
theorem Flat.mono {I I':Nat->Nat->Prop} {w w':World} (hI:∀ b o,I b o->I' b o) (hw:∀ b o,I b o->w'.cell? ⟨b,o,none⟩=w.cell? ⟨b,o,none⟩)
  {rows:List (List PV)} {sz:Nat} {us:List Value} (h:Flat I w rows sz us):Flat I' w' rows sz us:=
 ⟨h.len,h.hsz,fun i row j c hr hc=>by obtain⟨u,h1,h2⟩:=h.at_ i row j c hr hc; exact⟨u,h1,h2.mono hI hw⟩⟩
theorem Flat.append {I:Nat->Nat->Prop} {w:World} {rows ER:List (List PV)} {sz:Nat} {us us':List Value} (h:Flat I w rows sz us) (k:Flat I w ER sz us') :
  Flat I w (rows++ER) sz (us++us'):=by
 refine⟨by simp[h.len,k.len,CH],fun row hr=>?_,fun i row j c hr hc=>?_⟩
 ·rcases BL.1 hr with hr|hr
  ·exact h.hsz row hr
  ·exact k.hsz row hr
 ·rcases CU i rows.length with hi|hi
  ·rw[BA hi] at hr
   obtain⟨u,h1,h2⟩:=h.at_ i row j c hr hc;exact⟨u,by rw[BA (Bl h1)]; exact h1,h2⟩
  ·rw[CV hi] at hr
   obtain⟨u,h1,h2⟩:=k.at_ _ row j c hr hc;refine⟨u,?_,h2⟩
   have e:i*sz=us.length+(i-rows.length)*sz:=by
    rw[h.len,<-CH]; congr 1; omega
   rw[CV (by omega),show i*sz+j-us.length=(i-rows.length)*sz+j by omega];exact h1
theorem Flat.dF {I:Nat->Nat->Prop} {w:World} {rows:List (List PV)} {sz:Nat} {us:List Value} (h:Flat I w rows sz us) {b o:Nat}
  (hi:∀ q,q<us.length->I b (o+q)) (hc:∀ q u,us[q]?=some u->w.cell? ⟨b,o+q,none⟩=some u) :
  EH I w rows (some ⟨b,o,none⟩) b o sz (fun i j=>(us[i*sz+j]?).getD undef):=by
 refine⟨h.hsz,fun _ _=>rfl,fun i row j c hr hj=>?_,fun i row j c hr hj=>?_⟩
 ·obtain⟨u,h1,_⟩:=h.at_ i row j c hr hj
  rw[K6];exact⟨hi _ (Bl h1),by rw[hc _ u h1,h1]; rfl⟩
 ·obtain⟨u,h1,h2⟩:=h.at_ i row j c hr hj
  simp only[h1]; exact h2
theorem dG {i sz j:Nat} (h:j<sz):(i*sz+j) / sz=i/\(i*sz+j) % sz=j:=by
 have hs:0<sz:=by omega
 constructor
 ·rw[IE,Nat.mul_add_div hs,Nat.div_eq_of_lt h]; omega
 ·rw[IE,Nat.mul_add_mod,Wz h]
theorem EH.flat {I:Nat->Nat->Prop} {w:World} {rows:List (List PV)} {base:Option Addr} {b o sz:Nat} {f:Nat->Nat->Value} (h:EH I w rows base b o sz f) (hs:sz≠0) :
  ∃ us,Flat I w rows sz us/\∀ q u,us[q]?=some u->I b (o+q)/\w.cell? ⟨b,o+q,none⟩=some u:=by
 refine⟨(List.range (rows.length*sz)).map (fun q=>f (q / sz) (q % sz)),⟨by simp,h.hsz,fun i row j c hr hj=>?_⟩,fun q u hq=>?_⟩
 ·have hi:=Bl hr
  have hj':j<sz:=by rw[<-h.hsz row (BK hr)]; exact Bl hj
  have hlt:i*sz+j<rows.length*sz:=by
   have:(i+1)*sz<=rows.length*sz:=CB _ hi;rw[CH] at this; omega
  refine⟨f i j,?_,h.hv i row j c hr hj⟩;obtain⟨d1,d2⟩:=dG (i:=i) hj';simp[DR,OJ hlt,d1,d2]
 ·have hlt:q<rows.length*sz:=by have:=Bl hq; simpa using this
  simp[DR,OJ hlt] at hq;subst hq;have hi:q / sz<rows.length:=Nat.div_lt_of_lt_mul (by rw[IE]; exact hlt);have hm:q % sz<sz:=Nat.mod_lt _ (by omega);have hr:rows[q / sz]?=some rows[q / sz]:=by simp[hi]
  have hl:rows[q / sz].length=sz:=h.hsz _ (by simp);have hc:=h.hc (q / sz) rows[q / sz] (q % sz) (rows[q / sz][q % sz]'(by omega)) hr (by simp[hl,hm]);have e:o+q / sz*sz+q % sz=o+q:=by have:=Nat.div_add_mod q sz; rw[IE] at this; omega
  rw[e] at hc;exact hc
theorem EC {g:AH} {w:World} {x:AV} {rows:List (List PV)} {v:Value} (h:V g w x v) (hr:rowsOf x=some rows) :
  ∃ base cap b o sz f,v=.slice base rows.length cap/\rows.length<=cap/\EH g.I w rows base b o sz f:=by
 unfold rowsOf at hr;split at hr
 ·simp at hr; subst hr
  cases h with|pv h=>exact h.rows
 ·simp at hr; subst hr
  cases h with|AA h=>exact⟨_,_,_,_,_,_,rfl,AL _,h⟩
 ·simp at hr; subst hr
  cases h with|own h hcap=>exact⟨_,_,_,_,_,_,rfl,hcap,h⟩
 ·simp at hr
theorem dH {g:AH} {w:World} {x:AV} {p:PV} {v:Value} (h:V g w x v) (hp:I3 x=some p):VP g.I w p v:=by
 unfold I3 at hp;split at hp
 ·simp at hp; subst hp; cases h with|pv h=>exact h
 ·simp at hp; subst hp; cases h with|AA h=>exact VP.IP h (AL _)
 ·simp at hp; subst hp; cases h with|own h hcap=>exact VP.IP h hcap
 ·simp at hp
theorem G3 {g:AH} {w:World} {cs:List AV}:∀ {ps:List PV} {vs:List Value},VL g w cs vs->Cn cs=some ps ->
  ps.length=vs.length/\∀ (j:Nat) p,ps[j]?=some p->∃ u,vs[j]?=some u/\VP g.I w p u:=by
 induction cs with
 | nil=>intro ps vs h hp; simp[Cn] at hp; subst hp; rw[h.Ee]; simp
 | cons c cs ih=>
  intro ps vs h hp;obtain⟨u,us,rfl,h1,h2⟩:=h.cases;simp only[Cn] at hp;split at hp
  ·rename_i p qs hc hcs
   simp at hp; subst hp;obtain⟨k1,k2⟩:=ih h2 hcs;refine⟨by simp[k1],fun j p' hj=>?_⟩;cases j with
   | zero=>simp at hj; subst hj; exact⟨u,rfl,dH h1 hc⟩
   | succ j=>simp at hj ⊢; exact k2 j p' hj
  ·simp at hp
theorem EF (k:Nat):∀ (n:Nat) (ps:List PV),(B6 k n ps).length=n:=by
 intro n
 induction n with
 | zero=>intro ps; rfl
 | succ n ih=>intro ps; simp[B6,ih]
theorem SK (k:Nat):∀ (n:Nat) (ps:List PV) (i:Nat) (row:List PV),(B6 k n ps)[i]?=some row->row=(ps.drop (i*k)).take k:=by
 intro n
 induction n with
 | zero=>intro ps i row h; simp[B6] at h
 | succ n ih=>
  intro ps i row h;cases i with
  | zero=>simp[B6] at h; simp[h]
  | succ i=>
   simp[B6] at h;rw[ih _ i row h,List.drop_drop];congr 2;rw[CH]; omega
theorem IY {I:Nat->Nat->Prop} {w:World} {k n:Nat} {ps:List PV} {us:List Value} (hn:us.length=n*k) (hl:ps.length=us.length)
  (h:∀ (j:Nat) p,ps[j]?=some p->∃ u,us[j]?=some u/\VP I w p u):Flat I w (B6 k n ps) k us:=by
 refine⟨by rw[EF,hn],fun row hr=>?_,fun i row j c hr hj=>?_⟩
 ·obtain⟨i,hi,rfl⟩:=OK.1 hr
  rw[EF] at hi;have:=SK k n ps i _ (Ak (by rw[EF]; exact hi));rw[this];have:(i+1)*k<=n*k:=CB _ hi;rw[CH] at this;simp; omega
 ·have:=SK k n ps i row hr
  subst this;rw[CT] at hj;split at hj
  ·rw[GM] at hj
   exact h _ c hj
  ·simp at hj
theorem J6 {α:Type} (l:List α):∀ n,(Fh n l).length=n*l.length:=by
 intro n
 induction n with
 | zero=>simp[Fh]
 | succ n ih=>simp[Fh,ih,CH]; omega
theorem VL.Fh {g:AH} {w:World} {cs:List AV} {vs:List Value} (h:VL g w cs vs):∀ n,VL g w (Tel.Fh n cs) (Tel.Fh n vs):=by
 intro n
 induction n with
 | zero=>exact .nil
 | succ n ih=>exact h.append ih
theorem dI (z:List Value) (hz:z≠[]) (d:Value):∀ n,(List.range (n*z.length)).map (fun i=>(z[i % z.length]?).getD d)=Fh n z:=by
 have hp:0<z.length:=List.length_pos_iff.2 hz;intro n
 induction n with
 | zero=>simp[Fh]
 | succ n ih=>
  have e:(n+1)*z.length=z.length+n*z.length:=by rw[CH]; omega
  rw[e,List.range_add,Mk];simp only[OL,Fh];congr 1
  ·apply K8
   intro i;rw[DR];rcases CU i z.length with h|h
   ·simp[Wz h,h]
   ·rw[Ea (by simpa using h),Ea h]; rfl
  ·rw[<-ih]
   apply IG;intro i _;simp
theorem SL (z:Array Value) (n:Nat) (hz:z.size≠0):(Array.range (n*z.size)).map (z[· % z.size]!)=⟨Fh n z.toList⟩:=by
 apply D9;have hne:z.toList≠[]:=by intro h; apply hz; rw[<-DS,h]; rfl
 have:=dI z.toList hne default n;simp only[Array.toList_map,Array.toList_range];rw[<-this];simp only[DS];apply IG;intro i _;rw[getElem!_def];simp only[<-Array.getElem?_toList];cases z.toList[i % z.size]? <;> rfl
end Go.Tel
