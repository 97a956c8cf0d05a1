/-
  Returns, part 1: what a value is for one who keeps only the first blocks and tokens.
-/
import Derived.Test.YtpgfpakdnijngaaGreatDoorEvG
set_option linter.all false
namespace Go.Tel
open Option renaming some->Y,none->G
open Bool renaming true->Z
open Go renaming World->ϙ,Value->ϛ
structure G0 (n m:Nat) (g' g'':AZ):Prop where
 blk:∀id b,id<n->g'.blk id=Y b->g''.blk id=Y b
 dead:∀id,id<n->g'.dead id->g''.dead id
 tok:∀t l,t<m->g'.tok t=Y l->g''.tok t=Y l
 mp:∀id b,id<n->g'.mp id=Y b->g''.mp id=Y b
 mono:∀b o,g'.I b o->g''.I b o
def Ph (bs:Ϩ) (n:Nat) (g' d:AZ) (w:ϙ):Prop:=
 ∀id b len sz rows v,n<=id->V g' w (.ref id b len sz) v->JU bs id b len sz=Y rows->VP d.I w (.list rows) v
def Ph.nil {n:Nat} {g' b:AZ} {w:ϙ}:Ph [] n g' b w:=λ_ _ _ _ _ _ _ _ h=>by grind[JU]
def K8 {E:Env} {g' f:AZ} {w:ϙ} {s:AY} {n:Nat} (l:Inv E g' w s) (m:∀b o,g'.I b o->f.I b o) (p:∀id b o,n<=id->g'.blk id=Y b->f.I b o):Ph s.bs n g' f w:=by
 intro id d len sz rows v hn B h;unfold JU at h;split at h
 .rename_i i t
  split at h
  .rename_i Q
   split at h
   .rename_i ps x
    simp at h; subst h;cases B with
    | Jb C=>
     have:=l.D3 id C
     grind
    | @ref _ _ _ _ b K S e k H T L=>
     have⟨M,j,U,k1,k2,N,k3⟩:=l.blk id b k;rw[t] at k1; simp at k1; subst k1;have y:=(k3.drop d).take (len*sz);have⟨q1,D⟩:=HO y x;have z:(((j.take i.length).drop d).take (len*sz)).length=len*sz:=AB;have A:Flat g'.I w (CZ sz len ps) sz (((j.take i.length).drop d).take (len*sz)):=Ip z q1 D;have r:Flat f.I w (CZ sz len ps) sz (((j.take i.length).drop d).take (len*sz)):=A.mono m (λ_ _ _=>rfl);have O:=r.fy (b:=b) (o:=d) (λq _=>p id b _ hn k) (λq u W=>by grind[CI])
     grind[VP.Ja,Fo]
   grind
  grind
 grind
mutual
theorem Iq {g' z:AZ} {w:ϙ} {bs:Ϩ} {n m:Nat} (l:Ph bs n g' z w) (e:G0 n m g' z):∀(x y:AV) (v:ϛ),close bs n m x=Y y->V g' w x v->V z w y v
 | .pv p,y,v,h,d=>by
  simp[close] at h; subst h;cases d with|pv d=>exact .pv (d.mono e.mono λ_ _ _=>rfl)
 | .ptr id A,y,v,h,d=>by
  simp only[close] at h;split at h
  .rename_i hid
   simp at h; subst h;cases d with
   | ptr hb=>exact .ptr (e.blk _ _ hid hb)
   | LS r=>exact .LS (e.dead _ hid r)
  grind
 | .EF S A,y,v,h,d=>by
  simp[close] at h; subst h;cases d with|EF=>exact .EF _ _
 | .DF Q A,y,v,h,d=>by
  simp[close] at h; subst h;cases d with
  | DF _ f i=>exact .DF _ f λj c C=>⟨e.mono _ _ (i j c C).1,(i j c C).2.1,(i j c C).2.2.mono e.mono λ_ _ _=>rfl⟩
 | .AE rows,y,v,h,d=>by
  simp[close] at h; subst h;cases d with|AE i=>exact .AE (i.mono e.mono λ_ _ _=>rfl)
 | .own t rows,y,v,h,d=>by
  simp only[close] at h;split at h
  .rename_i I
   simp at h; subst h;cases d with|own i o H hn hf=>exact .own (i.mono e.mono λ_ _ _=>rfl) o (e.tok _ _ I H) hn hf
  .simp at h; subst h
   cases d with|own i o H hn hf=>exact .pv (VP.Ja (i.mono e.mono λ_ _ _=>rfl) o)
 | .ref id A len sz,y,v,h,d=>by
  simp only[close] at h;split at h
  .rename_i hid
   simp at h; subst h;cases d with
   | ref hb o D hn=>exact .ref (e.blk _ _ hid hb) o D hn
   | Jb r=>exact .Jb (e.dead _ hid r)
  .rename_i hid
   split at h
   .rename_i rows i
    simp at h; subst h;exact .pv (l _ _ _ _ _ _ AA d i)
   grind
 | .func T a b,y,v,h,d=>by
  simp only[close] at h;split at h
  .rename_i K L M hb
   simp at h; subst h;obtain⟨s,us,rfl,u,N⟩:=d.Td;have k1:=Gk l e a K s M u;have k2:=Gk l e b L us hb N;exact .func k1.len k2.len k1.at_ k2.at_
  grind
 | .iface t x,y,v,h,d=>by
  simp only[close] at h;split at h
  .rename_i O hx
   simp at h; subst h;cases d with|iface d=>exact .iface (Iq l e x O _ hx d)
  grind
 | .agg E,y,v,h,d=>by
  simp only[close] at h;split at h
  .rename_i B hx
   simp at h; subst h;obtain⟨s,rfl,u⟩:=d.Yy;exact V.rK (Gk l e E B s hx u)
  grind
 | .tuple E,y,v,h,d=>by
  simp only[close] at h;split at h
  .rename_i B hx
   simp at h; subst h;obtain⟨s,rfl,u⟩:=d.Qp;exact V.tuple' (Gk l e E B s hx u)
  grind
 | .Gy,y,v,h,d=>by
  simp[close] at h; subst h;cases d with|Gy=>exact .Gy
 | .Hl id,y,v,h,d=>by
  simp only[close] at h;split at h
  .rename_i hid
   simp at h; subst h;cases d with|Hl hb=>exact .Hl (e.mp _ _ hid hb)
  grind
 | .PZ _ _,y,v,h,d=>by grind[close]
 | .bz id t k,y,v,h,d=>by
  simp only[close] at h;split at h
  .rename_i hid
   simp at h; subst h;cases d with
   | bz hb D=>exact .bz (e.blk _ _ hid hb) D
   | ql r=>exact .ql (e.dead _ hid r)
  grind
theorem Gk {g' d:AZ} {w:ϙ} {bs:Ϩ} {n m:Nat} (f:Ph bs n g' d w) (i:G0 n m g' d):∀(xs b:Ϭ) (vs:List ϛ),BZ bs n m xs=Y b->VL g' w xs vs->VL d w b vs
 | [],b,vs,h,e=>by
  simp[BZ] at h; subst h;rw[e.Fb];exact .nil
 | x::xs,b,vs,h,e=>by
  simp only[BZ] at h;split at h
  .rename_i c k l j
   simp at h; subst h;obtain⟨u,us,rfl,o,p⟩:=e.cases;exact .cons (Iq f i x c u l o) (Gk f i xs k us j p)
  grind
end
mutual
theorem Tl (n m:Nat):∀x:AV,F9 x=Z->close [] n m x=Y x
 | .pv _,_=>by rfl
 | .ptr _ _,h=>by grind[F9]
 | .EF _ _,_=>by rfl
 | .DF _ _,_=>by rfl
 | .AE _,_=>by rfl
 | .own _ _,h=>by grind[F9]
 | .ref _ _ _ _,h=>by grind[F9]
 | .func _ a b,h=>by
  simp only[F9,AK] at h;simp[close,HT n m a h.1,HT n m b h.2]
 | .iface _ x,h=>by
  simp only[F9] at h;simp[close,Tl n m x h]
 | .agg d,h=>by
  simp only[F9] at h;simp[close,HT n m d h]
 | .tuple d,h=>by
  simp only[F9] at h;simp[close,HT n m d h]
 | .Gy,_=>by rfl
 | .Hl _,h=>by grind[F9]
 | .PZ _ _,h=>by grind[F9]
 | .bz _ _ _,h=>by grind[F9]
theorem HT (n m:Nat):∀xs:Ϭ,Da xs=Z->BZ [] n m xs=Y xs
 | [],_=>by rfl
 | x::xs,h=>by
  simp only[Da,AK] at h;simp[BZ,Tl n m x h.1,HT n m xs h.2]
end
theorem J7 {n:Nat}:∀{cs:Ϭ} {i:Nat} {c:AV},Ap n cs=Z->cs[i]?=Y c->A6 n c=Z
 | [],_,_,_,h=>by grind
 | x::b,0,c,h,d=>by grind[Ap]
 | x::b,i+1,c,h,d=>by
  simp only[Ap,AK] at h;exact J7 h.2 Bp
structure Qz (n:Nat) (g' g'':AZ):Prop where
 blk:∀id b,id<n->g'.blk id=Y b->g''.blk id=Y b
 dead:∀id,id<n->g'.dead id->g''.dead id
 tok:∀t l,g'.tok t=Y l->g''.tok t=Y l
 mp:∀id b,id<n->g'.mp id=Y b->g''.mp id=Y b
 mono:∀b o,g'.I b o->g''.I b o
def V.keep {n:Nat} {g' m:AZ} {w:ϙ} (b:Qz n g' m) {x:AV} {v:ϛ} (h:V g' w x v) (hn:A6 n x=Z):V m w x v:=by
 induction h with
 | pv h=>exact .pv (h.mono b.mono λ_ _ _=>rfl)
 | ptr h=>exact .ptr (b.blk _ _ (by simp_all[A6]) h)
 | LS h=>exact .LS (b.dead _ (by simp_all[A6]) h)
 | EF s o=>grind[EF]
 | DF o f h=>exact .DF o f λj c i=>⟨b.mono _ _ (h j c i).1,(h j c i).2.1,(h j c i).2.2.mono b.mono λ_ _ _=>rfl⟩
 | AE h=>exact .AE (h.mono b.mono λ_ _ _=>rfl)
 | own h d r e hf=>exact .own (h.mono b.mono λ_ _ _=>rfl) d (b.tok _ _ r) e hf
 | ref h d k e=>exact .ref (b.blk _ _ (by simp_all[A6]) h) d k e
 | Jb h=>exact .Jb (b.dead _ (by simp_all[A6]) h)
 | Gy=>exact .Gy
 | Hl h=>exact .Hl (b.mp _ _ (by simp_all[A6]) h)
 | bz h k=>exact .bz (b.blk _ _ (by simp_all[A6]) h) k
 | ql h=>exact .ql (b.dead _ (by simp_all[A6]) h)
 | func p hm _ _ l t=>
  grind[A6,func,J7]
 | iface _ l=>grind[iface,A6]
 | agg p _ l=>grind[agg,J7,A6]
 | tuple p _ l=>grind[tuple,J7,A6]
def VL.keep {n:Nat} {g' b:AZ} {w:ϙ} (e:Qz n g' b) {xs:Ϭ} {vs:List ϛ} (h:VL g' w xs vs) (hn:Ap n xs=Z):VL b w xs vs:=
 ⟨h.len,λi c v d f=>(h.at_ i c v d f).keep e (J7 hn d)⟩
def AZ.M3 (g:AZ) (I:Nat->Nat->Prop):AZ:={ g with I:=I }
def bM {E:Env} {L:Ba} {g:AZ} {w w':ϙ} {s:AY} {I:Nat->Nat->Prop} (d:Inv E g w s) (os:w'.os=w.os) (tape:w'.tape=w.tape) (i:w'.output=w.output) (size:w.heap.size<=w'.heap.size)
  (mono:∀b o,g.I b o->I b o) (keep:∀b,b<w.heap.size->w'.heap[b]?=w.heap[b]?/\∀o,I b o->g.I b o) (n:∀b o,I b o->b<w'.heap.size)
  (m:∀gl row,E.G gl=Y row->∀j c,row[j]?=Y c->∃v,I gl j/\w'.cell? ⟨gl,j,G⟩=Y v/\VP I w' c v) (k:∀gl row,E.G gl=Y row->I gl row.length/\w'.cell? ⟨gl,row.length,G⟩=G) :
  Ext L g w (g.M3 I) w'/\Inv E (g.M3 I) w' s:=by
 have ext:Ext L g w (g.M3 I) w':={
  os:=os,tape:=tape,output:=i,size:=size,mono:=mono
  cell:=λb o f=>Cg (keep b (d.KZ b o f)).1 o
  blk:=λ_ _ hb=>.inl hb
  dead:=λ_ r=>r
  shape:=λ_ b hb _=>EA (keep b (d.EY hb)).1
  tok:=λ_ l hl=>⟨l,hl,.inl rfl⟩
  GK:=λ_ b hb _=>⟨hb,(keep b (d.EY hb)).1⟩
  F5:=λ_ l hl _=>⟨hl,(keep l.b (d.GM hl)).1,(keep l.b (d.GM hl)).2⟩
  out:=λb hb _ _ _=>keep b hb
  mp:=λ_ _ hb=>hb
  F6:=λ_ b hb=>⟨λ_=>(keep b (d.L6 hb)).1,(keep b (d.L6 hb)).2⟩
  K4:=λid _ hb _=>⟨id,hb⟩
  HY:=λid _ hb _=>⟨id,hb⟩
  K5:=λ_ l hl _=>⟨l,hl,rfl⟩
  Db:=λ_ u=>u }
 refine⟨ext,?_⟩
 exact {
  FC:=d.FC,EB:=d.EB,D3:=d.D3,EJ:=d.EJ,Ev:=d.Ev,HH:=d.HH,HI:=d.HI,FD:=d.FD,Gt:=d.Gt,Dc:=d.Dc,KZ:=n,GF:=m,D4:=k,Mh:=d.Mh,Hy:=d.Hy
  mp:=d.IJ (λ_ _ _=>rfl) (λ_ b hb=>(keep b (d.L6 hb)).1)
  blk:=λid b hb=>by
   have⟨x,vs,e,h1,h2,h3,y⟩:=d.blk id b hb;exact⟨x,vs,e,h1,(keep b (d.EY hb)).1.trans h2,h3,y.mono ext⟩
  GL:=λid b o hb f=>d.GL id b o hb ((keep b (d.EY hb)).2 o f)
  tok:=λt l hl=>by
   have⟨vs,e,h1,h2⟩:=d.tok t l hl
   grind
  HZ:=λt l o hl p f=>d.HZ t l o hl p ((keep l.b (d.GM hl)).2 o f) }
def AZ.Kr (g:AZ) (n:Nat) (b o:Nat):Prop:=g.I b o\/∃id,n<=id/\g.blk id=Y b
def Tm {E:Env} {g':AZ} {w':ϙ} {d:AY} {I:Nat->Nat->Prop} (e:Inv E g' w' d) (hm:∀b o,g'.I b o->I b o) :
  ∀gl row,E.G gl=Y row->∀j c,row[j]?=Y c->∃v,I gl j/\w'.cell? ⟨gl,j,G⟩=Y v/\VP I w' c v:=λgl row f j c i=>by
 have⟨v,k,l,m⟩:=e.GF gl row f j c i;exact⟨v,hm _ _ k,l,m.mono hm λ_ _ _=>rfl⟩
def Q0 {E:Env} {g':AZ} {w':ϙ} {f:AY} {I:Nat->Nat->Prop} (d:Inv E g' w' f) (hm:∀b o,g'.I b o->I b o) :
  ∀gl row,E.G gl=Y row->I gl row.length/\w'.cell? ⟨gl,row.length,G⟩=none:=λgl row e=>⟨hm _ _ (d.D4 gl row e).1,(d.D4 gl row e).2⟩
def zK {E:Env} {L:Ba} {g g':AZ} {w w':ϙ} {s f:AY} (i:Inv E g w s) (hx:Ext L g w g' w') (e:Inv E g' w' f) {id b:Nat} (hid:id<s.bs.length) (hb:g'.blk id=Y b):∃d,g.blk id=Y d/\d=b:=by
 rcases i.Ev id hid with ⟨d,j⟩|hd|hp|⟨d,hm⟩
 .rcases hx.blk id d j with k|k
  .grind
  .rw[g'.hd id k] at hb; grind
 .rw[g'.hd id (hx.dead id hd)] at hb; grind
 .rw[(e.EJ id (hx.Db id hp)).2.1] at hb; grind
 .rw[(e.Mh id d (hx.mp id d hm)).1] at hb; grind
def AE3 {E:Env} {L:Ba} {g g':AZ} {w w':ϙ} {s e:AY} (f:Inv E g w s) (hx:Ext L g w g' w') (b:Inv E g' w' e) {id:Nat} (hid:id<s.bs.length):id<e.bs.length:=by
 rcases f.Ev id hid with ⟨d,i⟩|hd|hp|⟨d,hm⟩
 .rcases hx.blk id d i with k|k
  .exact b.FC id d k
  .exact b.EB id k
 .exact b.EB id (hx.dead id hd)
 .exact(b.EJ id (hx.Db id hp)).1
 .exact b.zE (hx.mp id d hm)
def AE4 {E:Env} {L:Ba} {g g':AZ} {w w':ϙ} {s f:AY} (i:Inv E g w s) (hx:Ext L g w g' w') (e:Inv E g' w' f) {id b:Nat} (hid:id<s.bs.length) (hb:g'.mp id=Y b):g.mp id=Y b:=by
 have⟨n,j,l⟩:=e.Mh id b hb;rcases i.Ev id hid with ⟨d,m⟩|hd|hp|⟨d,hm⟩
 .rcases hx.blk id d m with k|k
  all_goals grind
 .exact absurd (hx.dead id hd) j
 .exact absurd (hx.Db id hp) l
 .rw[hx.mp id d hm] at hb
  grind
def AE5 {E:Env} {L L':Ba} {g g':AZ} {w w':ϙ} {s H:AY} (j:Inv E g w s) (B:L'.ro=s.bs.length) (U:L'.rt=s.ts.length) (hx:Ext L' g w g' w') (f:Inv E g' w' H) :
  Ext L g w (g.M3 (g'.Kr s.bs.length)) w'/\Inv E (g.M3 (g'.Kr s.bs.length)) w' s/\G0 s.bs.length s.ts.length g' (g.M3 (g'.Kr s.bs.length))/\Ph H.bs s.bs.length g' (g.M3 (g'.Kr s.bs.length)) w':=by
 have C:∀id b,g.blk id=Y b->g'.blk id=Y b/\w'.heap[b]?=w.heap[b]?:=λid b hb=>hx.GK id b hb (by rw[B]; exact j.FC id b hb)
 have D:∀t l,g.tok t=Y l->g'.tok t=Y l/\w'.heap[l.b]?=w.heap[l.b]?/\∀o,g'.I l.b o->g.I l.b o:=λt l m=>hx.F5 t l m (by
  have:=j.HI t l m
  grind)
 have r:∀b o,g'.I b o->g'.Kr s.bs.length b o:=λ_ _ h=>.inl h
 have keep:∀b,b<w.heap.size->w'.heap[b]?=w.heap[b]?/\∀o,g'.Kr s.bs.length b o->g.I b o:=λb hb=>by
  by_cases u:∃id,g.blk id=Y b
  .obtain⟨id,u⟩:=u
   have⟨n,x⟩:=C id b u;refine⟨x,λo d=>?_⟩;rcases d with d|⟨i,y,k⟩
   .exact absurd d (f.GL id b o n)
   .have:=f.FD id i b n k
    have:=j.FC id b u;omega
  .have M:∀id,g.blk id≠Y b:=λid e=>u ⟨id,e⟩
   have W:∀i,g'.blk i≠Y b:=λi k=>by
    have⟨X,α⟩:=hx.HY i b k hb
    grind
   by_cases hm:∃id,g.mp id=Y b
   .obtain⟨id,hm⟩:=hm
    have⟨n,x⟩:=hx.F6 id b hm;refine⟨n (by rw[B]; exact j.zE hm),λo d=>?_⟩;rcases d with d|⟨i,_,k⟩
    all_goals grind
   have N:∀id,g.mp id≠Y b:=λid e=>hm ⟨id,e⟩
   by_cases y:∃t l,g.tok t=Y l/\l.b=b
   .obtain⟨t,l,y,rfl⟩:=y
    have⟨_,x,β⟩:=D t l y;refine⟨x,λo d=>?_⟩;rcases d with d|⟨i,_,k⟩
    all_goals grind
   .have⟨n,x⟩:=hx.out b hb M (λt l m e=>y ⟨t,l,m,e⟩) N
    refine⟨n,λo d=>?_⟩;rcases d with d|⟨i,_,k⟩
    all_goals grind
 have K:∀b o,g'.Kr s.bs.length b o->b<w'.heap.size:=λb o d=>by
  rcases d with d|⟨i,_,k⟩
  .exact f.KZ b o d
  .exact f.EY k
 have⟨O,Q⟩:=bM (L:=L) j hx.os hx.tape hx.output hx.size (λb o h=>r b o (hx.mono b o h)) keep K (Tm f r) (Q0 f r);refine⟨O,Q,⟨λid b hid hb=>?_,λid hid A=>?_,λt l γ m=>?_,λid b hid hb=>AE4 j hx f hid hb,r⟩,K8 f r λid b o hid hb=>.inr ⟨id,hid,hb⟩⟩
 .obtain⟨z,p,rfl⟩:=zK j hx f hid hb
  exact p
 .rcases j.Ev id hid with ⟨z,p⟩|hd' | hp|⟨z,hm⟩
  .have:=(C id z p).1
   rw[g'.hd id A] at this; grind
  .exact hd'
  .exact absurd A (f.EJ id (hx.Db id hp)).2.2
  .exact absurd A (f.Mh id z (hx.mp id z hm)).2.1
 .have S:s.ts[t]?=Y (s.ts[t].1,s.ts[t].2):=by grind
  have⟨T,p,_⟩:=j.HH t _ _ S;have:=(D t T p).1;rw[m] at this; simp at this; subst this;exact p
def AZ.bare (I:Nat->Nat->Prop):AZ:=⟨λ_=>G,λ_=>False,λ_=>False,λ_=>G,λ_=>G,I,λ_ h=>h.elim⟩
theorem Inv.bare {E:Env} {g:AZ} {w:ϙ} {s:AY} (h:Inv E g w s):Inv E (AZ.bare g.I) w ⟨[],[]⟩ where
 FC:=λ_ _ h=>by grind[AZ.bare]
 EB:=λ_ h=>by grind[AZ.bare]
 blk:=λ_ _ h=>by grind[AZ.bare]
 GL:=λ_ _ _ h=>by grind[AZ.bare]
 D3:=λ_ h=>by grind[AZ.bare]
 EJ:=λ_ h=>by grind[AZ.bare]
 Ev:=λ_ h=>by grind
 mp:=λ_ _ h=>by grind[AZ.bare]
 Mh:=λ_ _ h=>by grind[AZ.bare]
 Hy:=λ_ _ _ h=>by grind[AZ.bare]
 HH:=λ_ _ _ h=>by grind
 HI:=λ_ _ h=>by grind[AZ.bare]
 tok:=λ_ _ h=>by grind[AZ.bare]
 HZ:=λ_ _ _ h=>by grind[AZ.bare]
 FD:=λ_ _ _ h=>by grind[AZ.bare]
 Gt:=λ_ _ _ _ h=>by grind[AZ.bare]
 Dc:=λ_ _ _ _ h=>by grind[AZ.bare]
 KZ:=h.KZ
 GF:=h.GF
 D4:=h.D4
theorem G0.bare {g:AZ}:G0 0 0 g (AZ.bare g.I):=⟨λ_ _ h=>absurd h (HD _),λ_ h=>absurd h (HD _),λ_ _ h=>absurd h (HD _),λ_ _ h=>absurd h (HD _),λ_ _ h=>h⟩
def ru {E:Env} {L L':Ba} {g g':AZ} {w w':ϙ} {s l:AY} (n:Inv E g w s) (hx:Ext L' (AZ.bare g.I) w g' w') (i:Inv E g' w' l) :
  Ext L g w (g.M3 (g'.Kr 0)) w'/\Inv E (g.M3 (g'.Kr 0)) w' s/\G0 0 0 g' (g.M3 (g'.Kr 0))/\Ph l.bs 0 g' (g.M3 (g'.Kr 0)) w':=by
 have f:∀b o,g'.I b o->g'.Kr 0 b o:=λ_ _ h=>.inl h
 have keep:∀b,b<w.heap.size->w'.heap[b]?=w.heap[b]?/\∀o,g'.Kr 0 b o->g.I b o:=λb hb=>by
  have⟨p,r⟩:=hx.out b hb (λ_ e=>by grind[AZ.bare]) (λ_ _ e=>by grind[AZ.bare]) (λ_ e=>by grind[AZ.bare]);refine⟨p,λo d=>?_⟩;rcases d with d|⟨k,_,j⟩
  .exact r o d
  .have⟨x,y⟩:=hx.HY k b j hb
   grind[AZ.bare]
 have m:∀b o,g'.Kr 0 b o->b<w'.heap.size:=λb o d=>by
  rcases d with d|⟨k,_,j⟩
  .exact i.KZ b o d
  .exact i.EY j
 have⟨t,u⟩:=bM (L:=L) n hx.os hx.tape hx.output hx.size (λb o h=>f b o (hx.mono b o h)) keep m (Tm i f) (Q0 i f);exact⟨t,u,⟨λ_ _ h=>absurd h (HD _),λ_ h=>absurd h (HD _),λ_ _ h=>absurd h (HD _),λ_ _ h=>absurd h (HD _),f⟩,K8 i f λid b o hid hb=>.inr ⟨id,hid,hb⟩⟩
def AZ.cut (g:AZ) (n:Nat) (r:Option Nat):AZ where
 blk id:=if id<n then g.blk id else if id=n then r.bind g.blk else G
 dead id:=id<n/\g.dead id
 Db id:=id<n/\g.Db id
 tok:=g.tok
 mp id:=if id<n then g.mp id else G
 I b o:=g.I b o\/∃id,n<=id/\r≠Y id/\g.blk id=Y b
 hd id h:=by simp[h.1,g.hd id h.2]
def Je {g:AZ} {n:Nat} {r:Option Nat} {id b:Nat} (h:(g.cut n r).blk id=Y b):(id<n/\g.blk id=Y b)\/(id=n/\∃d,r=Y d/\g.blk d=Y b):=by
 simp only[AZ.cut] at h;split at h
 .grind
 .split at h
  .rename_i hid
   cases r with
   | none=>grind
   | some d=>grind
  grind
theorem Pj {g:AZ} {n:Nat} {r:Option Nat} {id b:Nat} (hid:id<n) (h:g.blk id=Y b):(g.cut n r).blk id=Y b:=by grind[AZ.cut]
def Tn {g:AZ} {n:Nat} {r:Option Nat} {id b:Nat} (h:(g.cut n r).mp id=Y b):id<n/\g.mp id=Y b:=by grind[AZ.cut]
theorem Pm {g:AZ} {n:Nat} {r:Option Nat} {id b:Nat} (hid:id<n) (h:g.mp id=Y b):(g.cut n r).mp id=Y b:=by grind[AZ.cut]
theorem Qz.cut {g:AZ} {n:Nat} {r:Option Nat}:Qz n g (g.cut n r):=
 ⟨λ_ _ hid hb=>Pj hid hb,λ_ hid b=>⟨hid,b⟩,λ_ _ h=>h,λ_ _ hid hb=>Pm hid hb,λ_ _ h=>.inl h⟩
def WE (s:AY) (n:Nat) (r:Option Nat):AY:=⟨s.bs.take n++(match r with|none=>[]|some id=>(s.bs[id]?).toList),s.ts⟩
def ry {E:Env} {L L':Ba} {g g':AZ} {w w':ϙ} {s j:AY} {r:Option Nat} (z:Inv E g w s) (S:L'.ro=L.ro) (T:L'.rt=L.rt) (hx:Ext L' g w g' w') (d:Inv E g' w' j)
  (C:(j.bs.take s.bs.length).all (Ap s.bs.length)=Z)
  (H:∀id,r=Y id->s.bs.length<=id/\(∃b,g'.blk id=Y b)/\∀cs,j.bs[id]?=Y cs->Ap s.bs.length cs=Z) :
  Ext L g w (g'.cut s.bs.length r) w'/\Inv E (g'.cut s.bs.length r) w' (WE j s.bs.length r):=by
 have D:s.bs.length<=j.bs.length:=by
  rcases Fv 0 s.bs.length with k|k
  .have:=AE3 z hx d (id:=s.bs.length-1) AA; omega
  omega
 have U:(j.bs.take s.bs.length).length=s.bs.length:=AB;have M:∀id b,g.blk id=Y b->id<s.bs.length:=z.FC
 have W:∀b o,(∀id,g'.blk id=Y b->id<s.bs.length)->(g'.cut s.bs.length r).I b o->g'.I b o:=λb o h f=>by
  rcases f with f|⟨id,h1,_,h3⟩
  all_goals grind
 have get:∀id,id<s.bs.length->(WE j s.bs.length r).bs[id]?=j.bs[id]?:=λid hid=>by simp[*,WE,C3]
 have N:∀id cs,id<s.bs.length->j.bs[id]?=Y cs->Ap s.bs.length cs=true:=λid cs hid X=>by
  rw[Cl] at C;refine C cs (A8 (i:=id) ?_)
  grind
 have ext:Ext L g w (g'.cut s.bs.length r) w':={
  os:=hx.os,tape:=hx.tape,output:=hx.output,size:=hx.size
  mono:=λb o f=>.inl (hx.mono b o f)
  cell:=hx.cell
  blk:=λid b hb=>by
   rcases hx.blk id b hb with k|k
   .grind[Pj]
   .exact .inr ⟨M id b hb,k⟩
  dead:=λid hd=>⟨z.EB id hd,hx.dead id hd⟩
  shape:=λid b hb m=>by
   rcases Je m with ⟨_,k⟩|⟨k,_⟩
   .exact hx.shape id b hb k
   grind
  tok:=hx.tok
  GK:=λid b hb p=>by
   have⟨u,a2⟩:=hx.GK id b hb AA
   grind[Pj]
  F5:=λt l y p=>by
   have⟨u,a2,K⟩:=hx.F5 t l y AA;refine⟨u,a2,λo x=>K o ?_⟩;rcases x with x|⟨id,_,_,h3⟩
   .omega
   .exact absurd rfl (d.Dc id l.b t l h3 u)
  mp:=λid b hb=>Pm (z.zE hb) (hx.mp id b hb)
  F6:=λid b hb=>by
   have⟨u,a2⟩:=hx.F6 id b hb;refine⟨λp=>u AA,λo x=>a2 o ?_⟩;rcases x with x|⟨n,_,_,h3⟩
   .omega
   .exact absurd h3 (d.mpB (hx.mp id b hb))
  K4:=λid b hb p=>hx.K4 id b (Tn hb).2 p
  out:=λb hb h1 h2 h3=>by
   have⟨u,a2⟩:=hx.out b hb h1 h2 h3;refine⟨u,λo x=>a2 o ?_⟩;rcases x with x|⟨id,_,_,h3⟩
   .omega
   .have⟨Mv,A⟩:=hx.HY id b h3 hb
    grind
  HY:=λid b hb p=>by
   rcases Je hb with ⟨_,k⟩|⟨_,Mv,_,k⟩
   .exact hx.HY id b k p
   .exact hx.HY Mv b k p
  K5:=hx.K5
  Db:=λid hp=>⟨(z.EJ id hp).1,hx.Db id hp⟩ }
 have B:∀Mv,r=Y Mv->∃cs,j.bs[Mv]?=Y cs/\(WE j s.bs.length r).bs[s.bs.length]?=Y cs/\(WE j s.bs.length r).bs.length=s.bs.length+1:=λMv e=>by
  have⟨_,⟨b,hb⟩,_⟩:=H Mv e;have p:=d.FC Mv b hb;simp[*,WE]
 have Q:s.bs.length<=(WE j s.bs.length r).bs.length:=AB;refine⟨ext,?_⟩
 exact {
  FC:=λid b hb=>by
   rcases Je hb with ⟨k,_⟩|⟨rfl,Mv,e,_⟩
   all_goals grind
  EB:=λid hd=>by have:=hd.1; omega
  blk:=λid b hb=>by
   rcases Je hb with ⟨k,hb⟩|⟨rfl,Mv,e,hb⟩
   .have⟨cs,vs,e,h1,h2,h3,A⟩:=d.blk id b hb
    exact⟨cs,vs,e,(get id k).trans h1,h2,h3,A.keep Qz.cut (N id cs k h1)⟩
   .have⟨cs,vs,e',h1,h2,h3,A⟩:=d.blk Mv b hb
    have⟨α,k1,k2,_⟩:=B Mv e;rw[h1] at k1; simp at k1; subst k1;exact⟨cs,vs,e',k2,h2,h3,A.keep Qz.cut ((H Mv e).2.2 cs h1)⟩
  GL:=λid b o hb f=>by
   rcases Je hb with ⟨k,hb⟩|⟨rfl,Mv,e,hb⟩
   .rcases f with f|⟨n,h1,_,h3⟩
    .exact d.GL id b o hb f
    .have:=d.FD id n b hb h3; omega
   .rcases f with f|⟨n,h1,h2,h3⟩
    .exact d.GL Mv b o hb f
    .have:=d.FD Mv n b hb h3
     grind
  D3:=λid hd=>(get id hd.1).trans (d.D3 id hd.2)
  EJ:=λid hp=>by
   have⟨a,b,c⟩:=d.EJ id hp.2
   grind[AZ.cut]
  Ev:=λid hid=>by
   by_cases k:id<s.bs.length
   .rcases d.Ev id AA with ⟨b,hb⟩|hd|hp|⟨b,hm⟩
    .grind[Pj]
    .exact .inr (.inl ⟨k,hd⟩)
    .exact .inr (.inr (.inl ⟨k,hp⟩))
    grind[Pm]
   .cases e:r with
    | none=>
     grind[WE]
    | some Mv=>
     have⟨_,_,_,h3⟩:=B Mv e;rw[h3] at hid;have:id=s.bs.length:=AA;simp[*,AZ.cut]
  mp:=λid b hb=>by
   have⟨k,hm⟩:=Tn hb;have⟨β,c,h1,h2⟩:=d.mp id b hm
   grind
  Mh:=λid b hb=>by
   have⟨k,hm⟩:=Tn hb;have⟨u,a2,K⟩:=d.Mh id b hm
   grind[AZ.cut]
  Hy:=λid n b hb m=>d.Hy id n b (Tn hb).2 (Tn m).2
  HH:=d.HH
  HI:=d.HI
  tok:=d.tok
  HZ:=λt l o y D f=>by
   rcases f with f|⟨n,_,_,h3⟩
   .exact d.HZ t l o y D f
   .exact absurd rfl (d.Dc n l.b t l h3 y)
  FD:=λid n b hb m=>by
   rcases Je hb with ⟨k,hb⟩|⟨rfl,Mv,e,hb⟩
   .rcases Je m with ⟨O,m⟩|⟨rfl,Mv,e,m⟩
    .exact d.FD id n b hb m
    .have:=d.FD id Mv b hb m
     grind
   .rcases Je m with ⟨O,m⟩|⟨rfl,_⟩
    .have:=d.FD n Mv b m hb
     grind
    rfl
  Gt:=d.Gt
  Dc:=λid b t l hb y=>by
   rcases Je hb with ⟨_,hb⟩|⟨_,Mv,_,hb⟩
   .exact d.Dc id b t l hb y
   .exact d.Dc Mv b t l hb y
  KZ:=λb o f=>by
   rcases f with f|⟨id,_,_,h3⟩
   .exact d.KZ b o f
   .exact d.EY h3
  GF:=Tm d λ_ _ h=>.inl h
  D4:=Q0 d λ_ _ h=>.inl h }
theorem bN {E:Env} {L L':Ba} {g g':AZ} {w w':ϙ} {s f m:AY} {r:Bool} {v x:AV} {u:ϛ} (A:Inv E g w s) (p:L'.ro=L.ro) (t:L'.rt=L.rt) (hx:Ext L' g w g' w') (i:Inv E g' w' f)
  (D:V g' w' x u) (h:IA r s.bs.length x f=Y (v,m)):∃k,V k w' v u/\Ext L g w k w'/\Inv E k w' m:=by
 unfold IA at h;cases j:(f.bs.take s.bs.length).all (Ap s.bs.length) with
 | false=>grind
 | true=>
  rw[j] at h;simp only[AQ] at h;split at h
  .rename_i id X len sz d
   unfold IG at d;split at d
   .rename_i z T U α
    cases B:(r&&Nat.ble s.bs.length z) with
    | false=>grind
    | true=>
     rw[B] at d;simp at d;obtain⟨rfl,rfl,rfl,rfl⟩:=d;simp at B;split at h
     .rename_i c H β
      cases I:Ap s.bs.length (c::H) with
      | false=>grind
      | true=>
       rw[I] at h;simp only[AQ,BU,Bg] at h;obtain⟨rfl,rfl⟩:=h;cases D with
       | Jb K=>have:=i.D3 _ K; grind
       | @ref _ _ _ _ b γ n e W C M hn=>
        have⟨l,N⟩:=ry (L:=L) (r:=Y z) A p t hx i j (λid e=>by grind);refine⟨_,?_,l,?_⟩
        .exact .ref (by grind[AZ.cut]) C M hn
        grind[WE]
     grind
   grind
  .split at h
   .rename_i y δ
    simp only[BU,Bg] at h;obtain⟨rfl,rfl⟩:=h;have⟨l,N⟩:=ry (L:=L) (r:=G) A p t hx i j (λid e=>by grind);refine⟨_,?_,l,?_⟩
    .have O:G0 s.bs.length f.ts.length g' (g'.cut s.bs.length G):=⟨λ_ _ a b=>Pj a b,λ_ a b=>⟨a,b⟩,λ_ _ _ h=>h,λ_ _ a b=>Pm a b,λ_ _ h=>.inl h⟩
     have ε:Ph f.bs s.bs.length g' (g'.cut s.bs.length G) w':=K8 i O.mono λid b o Q S=>Or.inr ⟨id,Q,AD,S⟩
     grind[Iq]
    grind[WE]
   grind
end Go.Tel
