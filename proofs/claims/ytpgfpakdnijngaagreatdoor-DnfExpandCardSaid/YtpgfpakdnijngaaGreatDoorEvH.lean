/-
  Returns, part 1: what a value is for one who keeps only the first blocks and tokens.
-/
import Derived.Test.YtpgfpakdnijngaaGreatDoorEvG
set_option linter.all false
namespace Go.Tel
structure Gq (n m:Nat) (g' g'':AH):Prop where
 blk:∀id b,id<n->g'.blk id=some b->g''.blk id=some b
 dead:∀id,id<n->g'.dead id->g''.dead id
 tok:∀t l,t<m->g'.tok t=some l->g''.tok t=some l
 mp:∀id b,id<n->g'.mp id=some b->g''.mp id=some b
 mono:∀b o,g'.I b o->g''.I b o
def OL (bs:List (List AV)) (n:Nat) (g' g'':AH) (w:World):Prop:=
 ∀id off len sz rows v,n<=id->V g' w (.ref id off len sz) v->Ii bs id off len sz=some rows->VP g''.I w (.list rows) v
theorem OL.nil {n:Nat} {g' g'':AH} {w:World}:OL [] n g' g'' w:=λ_ _ _ _ _ _ _ _ h=>by grind[Ii]
theorem J6 {E:Env} {g' g'':AH} {w:World} {s:AM} {n:Nat} (hI:Inv E g' w s) (hmono:∀b o,g'.I b o->g''.I b o) (AES:∀id b o,n<=id->g'.blk id=some b->g''.I b o):OL s.bs n g' g'' w:=by
 intro id off len sz rows v hn hv h;unfold Ii at h;split at h
 .rename_i cs hcs
  split at h
  .rename_i hc
   split at h
   .rename_i ps hps
    simp at h; subst h;cases hv with
    | Im hd=>
     have:=hI.Dd id hd
     grind
    | @ref _ _ _ _ b cap nn e Hz hcap hs qb=>
     obtain⟨cs',vs,e',k1,k2,kle,k3⟩:=hI.blk id b Hz;rw[hcs] at k1; simp at k1; subst k1;have hvl:=(k3.drop off).take (len*sz);obtain⟨q1,q2⟩:=Gk hvl hps;have qZ:(((vs.take cs.length).drop off).take (len*sz)).length=len*sz:=by grind
     have hfl:Flat g'.I w (CB sz len ps) sz (((vs.take cs.length).drop off).take (len*sz)):=Hy qZ q1 q2;have AVv:Flat g''.I w (CB sz len ps) sz (((vs.take cs.length).drop off).take (len*sz)):=hfl.mono hmono (λ_ _ _=>rfl);have hra:=AVv.dh (b:=b) (o:=off) (λq _=>AES id b _ hn Hz) (λq u hq=>by grind[Bj])
     grind[VP.Il,FK]
   grind
  grind
 grind
mutual
theorem H6 {g' g'':AH} {w:World} {bs:List (List AV)} {n m:Nat} (hI:OL bs n g' g'' w) (hk:Gq n m g' g''):∀(x y:AV) (v:Value),close bs n m x=some y->V g' w x v->V g'' w y v
 | .pv p,y,v,h,hv=>by
  simp[close] at h; subst h;cases hv with|pv hv=>exact .pv (hv.mono hk.mono λ_ _ _=>rfl)
 | .ptr id off,y,v,h,hv=>by
  simp only[close] at h;split at h
  .rename_i hid
   simp at h; subst h;cases hv with
   | ptr hb=>exact .ptr (hk.blk _ _ hid hb)
   | Ky hd=>exact .Ky (hk.dead _ hid hd)
  grind
 | .DS gl off,y,v,h,hv=>by
  simp[close] at h; subst h;cases hv with|DS=>exact .DS _ _
 | .Cq row off,y,v,h,hv=>by
  simp[close] at h; subst h;cases hv with
  | Cq _ f hr=>exact .Cq _ f λj c hj=>⟨hk.mono _ _ (hr j c hj).1,(hr j c hj).2.1,(hr j c hj).2.2.mono hk.mono λ_ _ _=>rfl⟩
 | .AB rows,y,v,h,hv=>by
  simp[close] at h; subst h;cases hv with|AB hr=>exact .AB (hr.mono hk.mono λ_ _ _=>rfl)
 | .own t rows,y,v,h,hv=>by
  simp only[close] at h;split at h
  .rename_i ht
   simp at h; subst h;cases hv with|own hr hcap VG hn hf=>exact .own (hr.mono hk.mono λ_ _ _=>rfl) hcap (hk.tok _ _ ht VG) hn hf
  .simp at h; subst h
   cases hv with|own hr hcap VG hn hf=>exact .pv (VP.Il (hr.mono hk.mono λ_ _ _=>rfl) hcap)
 | .ref id off len sz,y,v,h,hv=>by
  simp only[close] at h;split at h
  .rename_i hid
   simp at h; subst h;cases hv with
   | ref hb hcap hs hn=>exact .ref (hk.blk _ _ hid hb) hcap hs hn
   | Im hd=>exact .Im (hk.dead _ hid hd)
  .rename_i hid
   split at h
   .rename_i rows hr
    simp at h; subst h;exact .pv (hI _ _ _ _ _ _ (by omega) hv hr)
   grind
 | .func fn a b,y,v,h,hv=>by
  simp only[close] at h;split at h
  .rename_i a' b' ha hb
   simp at h; subst h;obtain⟨vs,us,rfl,h1,h2⟩:=hv.ZS;have k1:=F8 hI hk a a' vs ha h1;have k2:=F8 hI hk b b' us hb h2;exact .func k1.len k2.len k1.at_ k2.at_
  grind
 | .iface t x,y,v,h,hv=>by
  simp only[close] at h;split at h
  .rename_i x' hx
   simp at h; subst h;cases hv with|iface hv=>exact .iface (H6 hI hk x x' _ hx hv)
  grind
 | .agg cs,y,v,h,hv=>by
  simp only[close] at h;split at h
  .rename_i cs' hx
   simp at h; subst h;obtain⟨vs,rfl,h1⟩:=hv.XQ;exact V.rI (F8 hI hk cs cs' vs hx h1)
  grind
 | .tuple cs,y,v,h,hv=>by
  simp only[close] at h;split at h
  .rename_i cs' hx
   simp at h; subst h;obtain⟨vs,rfl,h1⟩:=hv.PG;exact V.tuple' (F8 hI hk cs cs' vs hx h1)
  grind
 | .Gw,y,v,h,hv=>by
  simp[close] at h; subst h;cases hv with|Gw=>exact .Gw
 | .G8 id,y,v,h,hv=>by
  simp only[close] at h;split at h
  .rename_i hid
   simp at h; subst h;cases hv with|G8 hb=>exact .G8 (hk.mp _ _ hid hb)
  grind
 | .N8 _ _,y,v,h,hv=>by grind[close]
 | .bz id t k,y,v,h,hv=>by
  simp only[close] at h;split at h
  .rename_i hid
   simp at h; subst h;cases hv with
   | bz hb hs=>exact .bz (hk.blk _ _ hid hb) hs
   | qW hd=>exact .qW (hk.dead _ hid hd)
  grind
theorem F8 {g' g'':AH} {w:World} {bs:List (List AV)} {n m:Nat} (hI:OL bs n g' g'' w) (hk:Gq n m g' g''):∀(xs ys:List AV) (vs:List Value),AY bs n m xs=some ys->VL g' w xs vs->VL g'' w ys vs
 | [],ys,vs,h,hv=>by
  simp[AY] at h; subst h;rw[hv.F2];exact .nil
 | x::xs,ys,vs,h,hv=>by
  simp only[AY] at h;split at h
  .rename_i c cs hc hcs
   simp at h; subst h;obtain⟨u,us,rfl,h1,h2⟩:=hv.cases;exact .cons (H6 hI hk x c u hc h1) (F8 hI hk xs cs us hcs h2)
  grind
end
mutual
theorem SJ (n m:Nat):∀x:AV,F1 x=true->close [] n m x=some x
 | .pv _,_=>by rfl
 | .ptr _ _,h=>by grind[F1]
 | .DS _ _,_=>by rfl
 | .Cq _ _,_=>by rfl
 | .AB _,_=>by rfl
 | .own _ _,h=>by grind[F1]
 | .ref _ _ _ _,h=>by grind[F1]
 | .func _ a b,h=>by
  simp only[F1,AE] at h;simp[close,Gr n m a h.1,Gr n m b h.2]
 | .iface _ x,h=>by
  simp only[F1] at h;simp[close,SJ n m x h]
 | .agg cs,h=>by
  simp only[F1] at h;simp[close,Gr n m cs h]
 | .tuple cs,h=>by
  simp only[F1] at h;simp[close,Gr n m cs h]
 | .Gw,_=>by rfl
 | .G8 _,h=>by grind[F1]
 | .N8 _ _,h=>by grind[F1]
 | .bz _ _ _,h=>by grind[F1]
theorem Gr (n m:Nat):∀xs:List AV,Bi xs=true->AY [] n m xs=some xs
 | [],_=>by rfl
 | x::xs,h=>by
  simp only[Bi,AE] at h;simp[AY,SJ n m x h.1,Gr n m xs h.2]
end
theorem JL {n:Nat}:∀{cs:List AV} {i:Nat} {c:AV},Ab n cs=true->cs[i]?=some c->Ar n c=true
 | [],_,_,_,h=>by grind
 | x::xs,0,c,h,hc=>by grind[Ab]
 | x::xs,i+1,c,h,hc=>by
  simp only[Ab,AE] at h;exact JL h.2 (by assumption)
structure PT (n:Nat) (g' g'':AH):Prop where
 blk:∀id b,id<n->g'.blk id=some b->g''.blk id=some b
 dead:∀id,id<n->g'.dead id->g''.dead id
 tok:∀t l,g'.tok t=some l->g''.tok t=some l
 mp:∀id b,id<n->g'.mp id=some b->g''.mp id=some b
 mono:∀b o,g'.I b o->g''.I b o
theorem V.keep {n:Nat} {g' g'':AH} {w:World} (hk:PT n g' g'') {x:AV} {v:Value} (h:V g' w x v) (hn:Ar n x=true):V g'' w x v:=by
 induction h with
 | pv h=>exact .pv (h.mono hk.mono λ_ _ _=>rfl)
 | ptr h=>exact .ptr (hk.blk _ _ (by simp_all[Ar]) h)
 | Ky h=>exact .Ky (hk.dead _ (by simp_all[Ar]) h)
 | DS gl off=>grind[DS]
 | Cq off f h=>exact .Cq off f λj c hj=>⟨hk.mono _ _ (h j c hj).1,(h j c hj).2.1,(h j c hj).2.2.mono hk.mono λ_ _ _=>rfl⟩
 | AB h=>exact .AB (h.mono hk.mono λ_ _ _=>rfl)
 | own h hcap ht hn' hf=>exact .own (h.mono hk.mono λ_ _ _=>rfl) hcap (hk.tok _ _ ht) hn' hf
 | ref h hcap hs hn'=>exact .ref (hk.blk _ _ (by simp_all[Ar]) h) hcap hs hn'
 | Im h=>exact .Im (hk.dead _ (by simp_all[Ar]) h)
 | Gw=>exact .Gw
 | G8 h=>exact .G8 (hk.mp _ _ (by simp_all[Ar]) h)
 | bz h hs=>exact .bz (hk.blk _ _ (by simp_all[Ar]) h) hs
 | qW h=>exact .qW (hk.dead _ (by simp_all[Ar]) h)
 | func hl hm _ _ ih ik=>
  grind[Ar,func,JL]
 | iface _ ih=>grind[iface,Ar]
 | agg hl _ ih=>grind[agg,JL,Ar]
 | tuple hl _ ih=>grind[tuple,JL,Ar]
theorem VL.keep {n:Nat} {g' g'':AH} {w:World} (hk:PT n g' g'') {xs:List AV} {vs:List Value} (h:VL g' w xs vs) (hn:Ab n xs=true):VL g'' w xs vs:=
 ⟨h.len,λi c v h1 h2=>(h.at_ i c v h1 h2).keep hk (JL hn h1)⟩
def AH.Ln (g:AH) (I:Nat->Nat->Prop):AH:={ g with I:=I }
theorem Zc {E:Env} {L:A8} {g:AH} {w w':World} {s:AM} {I:Nat->Nat->Prop} (hI:Inv E g w s) (os:w'.os=w.os) (tape:w'.tape=w.tape) (output:w'.output=w.output) (size:w.heap.size<=w'.heap.size)
  (mono:∀b o,g.I b o->I b o) (keep:∀b,b<w.heap.size->w'.heap[b]?=w.heap[b]?/\∀o,I b o->g.I b o) (J3:∀b o,I b o->b<w'.heap.size)
  (FZ:∀gl row,E.G gl=some row->∀j c,row[j]?=some c->∃v,I gl j/\w'.cell? ⟨gl,j,none⟩=some v/\VP I w' c v) (DZ:∀gl row,E.G gl=some row->I gl row.length/\w'.cell? ⟨gl,row.length,none⟩=none) :
  Ext L g w (g.Ln I) w'/\Inv E (g.Ln I) w' s:=by
 have ext:Ext L g w (g.Ln I) w':={
  os:=os,tape:=tape,output:=output,size:=size,mono:=mono
  cell:=λb o hi=>Cd (keep b (hI.J3 b o hi)).1 o
  blk:=λ_ _ hb=>.inl hb
  dead:=λ_ hd=>hd
  shape:=λ_ b hb _=>D0 (keep b (hI.E2 hb)).1
  tok:=λ_ l hl=>⟨l,hl,.inl rfl⟩
  GH:=λ_ b hb _=>⟨hb,(keep b (hI.E2 hb)).1⟩
  Fc:=λ_ l hl _=>⟨hl,(keep l.b (hI.HC hl)).1,(keep l.b (hI.HC hl)).2⟩
  out:=λb hb _ _ _=>keep b hb
  mp:=λ_ _ hb=>hb
  Fe:=λ_ b hb=>⟨λ_=>(keep b (hI.OD hb)).1,(keep b (hI.OD hb)).2⟩
  KL:=λid _ hb _=>⟨id,hb⟩
  G9:=λid _ hb _=>⟨id,hb⟩
  KM:=λ_ l hl _=>⟨l,hl,rfl⟩
  C9:=λ_ hp=>hp }
 refine⟨ext,?_⟩
 exact {
  El:=hI.El,Dc:=hI.Dc,Dd:=hI.Dd,Dl:=hI.Dl,EJ:=hI.EJ,Ge:=hI.Ge,Gf:=hI.Gf,Ez:=hI.Ez,GK:=hI.GK,DE:=hI.DE,J3:=J3,FZ:=FZ,DZ:=DZ,LN:=hI.LN,HK:=hI.HK
  mp:=hI.IL (λ_ _ _=>rfl) (λ_ b hb=>(keep b (hI.OD hb)).1)
  blk:=λid b hb=>by
   obtain⟨cs,vs,e,h1,h2,h3,h4⟩:=hI.blk id b hb;exact⟨cs,vs,e,h1,(keep b (hI.E2 hb)).1.trans h2,h3,h4.mono ext⟩
  F3:=λid b o hb hi=>hI.F3 id b o hb ((keep b (hI.E2 hb)).2 o hi)
  tok:=λt l hl=>by
   obtain⟨vs,e,h1,h2⟩:=hI.tok t l hl
   grind
  Gx:=λt l o hl hle hi=>hI.Gx t l o hl hle ((keep l.b (hI.HC hl)).2 o hi) }
def AH.Jt (g:AH) (n:Nat) (b o:Nat):Prop:=g.I b o\/∃id,n<=id/\g.blk id=some b
theorem SK {E:Env} {g':AH} {w':World} {s':AM} {I:Nat->Nat->Prop} (hI:Inv E g' w' s') (hm:∀b o,g'.I b o->I b o) :
  ∀gl row,E.G gl=some row->∀j c,row[j]?=some c->∃v,I gl j/\w'.cell? ⟨gl,j,none⟩=some v/\VP I w' c v:=λgl row hr j c hj=>by
 obtain⟨v,h1,h2,h3⟩:=hI.FZ gl row hr j c hj;exact⟨v,hm _ _ h1,h2,h3.mono hm λ_ _ _=>rfl⟩
theorem PU {E:Env} {g':AH} {w':World} {s':AM} {I:Nat->Nat->Prop} (hI:Inv E g' w' s') (hm:∀b o,g'.I b o->I b o) :
  ∀gl row,E.G gl=some row->I gl row.length/\w'.cell? ⟨gl,row.length,none⟩=none:=λgl row hr=>⟨hm _ _ (hI.DZ gl row hr).1,(hI.DZ gl row hr).2⟩
theorem ACL {E:Env} {L:A8} {g g':AH} {w w':World} {s s':AM} (hI:Inv E g w s) (hx:Ext L g w g' w') (GU:Inv E g' w' s') {id b:Nat} (hid:id<s.bs.length) (hb:g'.blk id=some b):∃b0,g.blk id=some b0/\b0=b:=by
 rcases hI.EJ id hid with ⟨b0,h0⟩|hd|hp|⟨b0,hm⟩
 .rcases hx.blk id b0 h0 with k|k
  .grind
  .rw[g'.hd id k] at hb; grind
 .rw[g'.hd id (hx.dead id hd)] at hb; grind
 .rw[(GU.Dl id (hx.C9 id hp)).2.1] at hb; grind
 .rw[(GU.LN id b0 (hx.mp id b0 hm)).1] at hb; grind
theorem AIz {E:Env} {L:A8} {g g':AH} {w w':World} {s s':AM} (hI:Inv E g w s) (hx:Ext L g w g' w') (GU:Inv E g' w' s') {id:Nat} (hid:id<s.bs.length):id<s'.bs.length:=by
 rcases hI.EJ id hid with ⟨b0,h0⟩|hd|hp|⟨b0,hm⟩
 .rcases hx.blk id b0 h0 with k|k
  .exact GU.El id b0 k
  .exact GU.Dc id k
 .exact GU.Dc id (hx.dead id hd)
 .exact(GU.Dl id (hx.C9 id hp)).1
 .exact GU.mpN (hx.mp id b0 hm)
theorem AI0 {E:Env} {L:A8} {g g':AH} {w w':World} {s s':AM} (hI:Inv E g w s) (hx:Ext L g w g' w') (GU:Inv E g' w' s') {id b:Nat} (hid:id<s.bs.length) (hb:g'.mp id=some b):g.mp id=some b:=by
 obtain⟨x1,x2,x3⟩:=GU.LN id b hb;rcases hI.EJ id hid with ⟨b0,h0⟩|hd|hp|⟨b0,hm⟩
 .rcases hx.blk id b0 h0 with k|k
  all_goals grind
 .exact absurd (hx.dead id hd) x2
 .exact absurd (hx.C9 id hp) x3
 .rw[hx.mp id b0 hm] at hb
  grind
theorem AI1 {E:Env} {L L':A8} {g g':AH} {w w':World} {s s':AM} (hI:Inv E g w s) (hro:L'.ro=s.bs.length) (EU:L'.rt=s.ts.length) (hx:Ext L' g w g' w') (GU:Inv E g' w' s') :
  Ext L g w (g.Ln (g'.Jt s.bs.length)) w'/\Inv E (g.Ln (g'.Jt s.bs.length)) w' s/\Gq s.bs.length s.ts.length g' (g.Ln (g'.Jt s.bs.length))/\OL s'.bs s.bs.length g' (g.Ln (g'.Jt s.bs.length)) w':=by
 have hkb:∀id b,g.blk id=some b->g'.blk id=some b/\w'.heap[b]?=w.heap[b]?:=λid b hb=>hx.GH id b hb (by rw[hro]; exact hI.El id b hb)
 have hkt:∀t l,g.tok t=some l->g'.tok t=some l/\w'.heap[l.b]?=w.heap[l.b]?/\∀o,g'.I l.b o->g.I l.b o:=λt l hl=>hx.Fc t l hl (by
  have:=hI.Gf t l hl
  grind)
 have hmono:∀b o,g'.I b o->g'.Jt s.bs.length b o:=λ_ _ h=>.inl h
 have keep:∀b,b<w.heap.size->w'.heap[b]?=w.heap[b]?/\∀o,g'.Jt s.bs.length b o->g.I b o:=λb hb=>by
  by_cases h1:∃id,g.blk id=some b
  .obtain⟨id,h1⟩:=h1
   obtain⟨a1,a2⟩:=hkb id b h1;refine⟨a2,λo ho=>?_⟩;rcases ho with ho|⟨id',h2,h3⟩
   .exact absurd ho (GU.F3 id b o a1)
   .have:=GU.Ez id id' b a1 h3
    have:=hI.El id b h1;omega
  .have ZD:∀id,g.blk id≠some b:=λid e=>h1 ⟨id,e⟩
   have hno:∀id',g'.blk id'≠some b:=λid' h3=>by
    obtain⟨FB,h4⟩:=hx.G9 id' b h3 hb
    grind
   by_cases hm:∃id,g.mp id=some b
   .obtain⟨id,hm⟩:=hm
    obtain⟨a1,a2⟩:=hx.Fe id b hm;refine⟨a1 (by rw[hro]; exact hI.mpN hm),λo ho=>?_⟩;rcases ho with ho|⟨id',_,h3⟩
    all_goals grind
   have hm':∀id,g.mp id≠some b:=λid e=>hm ⟨id,e⟩
   by_cases h2:∃t l,g.tok t=some l/\l.b=b
   .obtain⟨t,l,h2,rfl⟩:=h2
    obtain⟨_,a2,a3⟩:=hkt t l h2;refine⟨a2,λo ho=>?_⟩;rcases ho with ho|⟨id',_,h3⟩
    all_goals grind
   .obtain⟨a1,a2⟩:=hx.out b hb ZD (λt l hl e=>h2 ⟨t,l,hl,e⟩) hm'
    refine⟨a1,λo ho=>?_⟩;rcases ho with ho|⟨id',_,h3⟩
    all_goals grind
 have AI2:∀b o,g'.Jt s.bs.length b o->b<w'.heap.size:=λb o ho=>by
  rcases ho with ho|⟨id',_,h3⟩
  .exact GU.J3 b o ho
  .exact GU.E2 h3
 obtain⟨r1,r2⟩:=Zc (L:=L) hI hx.os hx.tape hx.output hx.size (λb o h=>hmono b o (hx.mono b o h)) keep AI2 (SK GU hmono) (PU GU hmono);refine⟨r1,r2,⟨λid b hid hb=>?_,λid hid hd=>?_,λt l ht hl=>?_,λid b hid hb=>AI0 hI hx GU hid hb,hmono⟩,J6 GU hmono λid b o hid hb=>.inr ⟨id,hid,hb⟩⟩
 .obtain⟨b0,h0,rfl⟩:=ACL hI hx GU hid hb
  exact h0
 .rcases hI.EJ id hid with ⟨b0,h0⟩|hd' | hp|⟨b0,hm⟩
  .have:=(hkb id b0 h0).1
   rw[g'.hd id hd] at this; grind
  .exact hd'
  .exact absurd hd (GU.Dl id (hx.C9 id hp)).2.2
  .exact absurd hd (GU.LN id b0 (hx.mp id b0 hm)).2.1
 .have hs:s.ts[t]?=some (s.ts[t].1,s.ts[t].2):=by grind
  obtain⟨l0,h0,_⟩:=hI.Ge t _ _ hs;have:=(hkt t l0 h0).1;rw[hl] at this; simp at this; subst this;exact h0
def AH.bare (I:Nat->Nat->Prop):AH:=⟨λ_=>none,λ_=>False,λ_=>False,λ_=>none,λ_=>none,I,λ_ h=>h.elim⟩
theorem Inv.bare {E:Env} {g:AH} {w:World} {s:AM} (h:Inv E g w s):Inv E (AH.bare g.I) w ⟨[],[]⟩ where
 El:=λ_ _ h=>by grind[AH.bare]
 Dc:=λ_ h=>by grind[AH.bare]
 blk:=λ_ _ h=>by grind[AH.bare]
 F3:=λ_ _ _ h=>by grind[AH.bare]
 Dd:=λ_ h=>by grind[AH.bare]
 Dl:=λ_ h=>by grind[AH.bare]
 EJ:=λ_ h=>by grind
 mp:=λ_ _ h=>by grind[AH.bare]
 LN:=λ_ _ h=>by grind[AH.bare]
 HK:=λ_ _ _ h=>by grind[AH.bare]
 Ge:=λ_ _ _ h=>by grind
 Gf:=λ_ _ h=>by grind[AH.bare]
 tok:=λ_ _ h=>by grind[AH.bare]
 Gx:=λ_ _ _ h=>by grind[AH.bare]
 Ez:=λ_ _ _ h=>by grind[AH.bare]
 GK:=λ_ _ _ _ h=>by grind[AH.bare]
 DE:=λ_ _ _ _ h=>by grind[AH.bare]
 J3:=h.J3
 FZ:=h.FZ
 DZ:=h.DZ
theorem Gq.bare {g:AH}:Gq 0 0 g (AH.bare g.I):=⟨λ_ _ h=>absurd h (G4 _),λ_ h=>absurd h (G4 _),λ_ _ h=>absurd h (G4 _),λ_ _ h=>absurd h (G4 _),λ_ _ h=>h⟩
theorem sH {E:Env} {L L':A8} {g g':AH} {w w':World} {s s':AM} (hI:Inv E g w s) (hx:Ext L' (AH.bare g.I) w g' w') (GU:Inv E g' w' s') :
  Ext L g w (g.Ln (g'.Jt 0)) w'/\Inv E (g.Ln (g'.Jt 0)) w' s/\Gq 0 0 g' (g.Ln (g'.Jt 0))/\OL s'.bs 0 g' (g.Ln (g'.Jt 0)) w':=by
 have hmono:∀b o,g'.I b o->g'.Jt 0 b o:=λ_ _ h=>.inl h
 have keep:∀b,b<w.heap.size->w'.heap[b]?=w.heap[b]?/\∀o,g'.Jt 0 b o->g.I b o:=λb hb=>by
  obtain⟨a1,a2⟩:=hx.out b hb (λ_ e=>by grind[AH.bare]) (λ_ _ e=>by grind[AH.bare]) (λ_ e=>by grind[AH.bare]);refine⟨a1,λo ho=>?_⟩;rcases ho with ho|⟨id',_,h3⟩
  .exact a2 o ho
  .obtain⟨FB,h4⟩:=hx.G9 id' b h3 hb
   grind[AH.bare]
 have AI2:∀b o,g'.Jt 0 b o->b<w'.heap.size:=λb o ho=>by
  rcases ho with ho|⟨id',_,h3⟩
  .exact GU.J3 b o ho
  .exact GU.E2 h3
 obtain⟨r1,r2⟩:=Zc (L:=L) hI hx.os hx.tape hx.output hx.size (λb o h=>hmono b o (hx.mono b o h)) keep AI2 (SK GU hmono) (PU GU hmono);exact⟨r1,r2,⟨λ_ _ h=>absurd h (G4 _),λ_ h=>absurd h (G4 _),λ_ _ h=>absurd h (G4 _),λ_ _ h=>absurd h (G4 _),hmono⟩,J6 GU hmono λid b o hid hb=>.inr ⟨id,hid,hb⟩⟩
def AH.cut (g:AH) (n:Nat) (r:Option Nat):AH where
 blk id:=if id<n then g.blk id else if id=n then r.bind g.blk else none
 dead id:=id<n/\g.dead id
 C9 id:=id<n/\g.C9 id
 tok:=g.tok
 mp id:=if id<n then g.mp id else none
 I b o:=g.I b o\/∃id,n<=id/\r≠some id/\g.blk id=some b
 hd id h:=by simp[h.1,g.hd id h.2]
theorem Iu {g:AH} {n:Nat} {r:Option Nat} {id b:Nat} (h:(g.cut n r).blk id=some b):(id<n/\g.blk id=some b)\/(id=n/\∃FB,r=some FB/\g.blk FB=some b):=by
 simp only[AH.cut] at h;split at h
 .grind
 .split at h
  .rename_i hid
   cases r with
   | none=>grind
   | some FB=>grind
  grind
theorem OM {g:AH} {n:Nat} {r:Option Nat} {id b:Nat} (hid:id<n) (h:g.blk id=some b):(g.cut n r).blk id=some b:=by grind[AH.cut]
theorem SL {g:AH} {n:Nat} {r:Option Nat} {id b:Nat} (h:(g.cut n r).mp id=some b):id<n/\g.mp id=some b:=by grind[AH.cut]
theorem OO {g:AH} {n:Nat} {r:Option Nat} {id b:Nat} (hid:id<n) (h:g.mp id=some b):(g.cut n r).mp id=some b:=by grind[AH.cut]
theorem PT.cut {g:AH} {n:Nat} {r:Option Nat}:PT n g (g.cut n r):=
 ⟨λ_ _ hid hb=>OM hid hb,λ_ hid hd=>⟨hid,hd⟩,λ_ _ h=>h,λ_ _ hid hb=>OO hid hb,λ_ _ h=>.inl h⟩
def Uf (s:AM) (n:Nat) (r:Option Nat):AM:=⟨s.bs.take n++(match r with|none=>[]|some id=>(s.bs[id]?).toList),s.ts⟩
theorem sI {E:Env} {L L':A8} {g g':AH} {w w':World} {s s':AM} {r:Option Nat} (hI:Inv E g w s) (hro:L'.ro=L.ro) (EU:L'.rt=L.rt) (hx:Ext L' g w g' w') (GU:Inv E g' w' s')
  (eM:(s'.bs.take s.bs.length).all (Ab s.bs.length)=true)
  (hr:∀id,r=some id->s.bs.length<=id/\(∃b,g'.blk id=some b)/\∀cs,s'.bs[id]?=some cs->Ab s.bs.length cs=true) :
  Ext L g w (g'.cut s.bs.length r) w'/\Inv E (g'.cut s.bs.length r) w' (Uf s' s.bs.length r):=by
 have hle:s.bs.length<=s'.bs.length:=by
  rcases FR 0 s.bs.length with k|k
  .have:=AIz hI hx GU (id:=s.bs.length-1) (by omega); omega
  omega
 have htl:(s'.bs.take s.bs.length).length=s.bs.length:=by grind
 have hbN:∀id b,g.blk id=some b->id<s.bs.length:=hI.El
 have hno:∀b o,(∀id,g'.blk id=some b->id<s.bs.length)->(g'.cut s.bs.length r).I b o->g'.I b o:=λb o h hi=>by
  rcases hi with hi|⟨id,h1,_,h3⟩
  all_goals grind
 have get:∀id,id<s.bs.length->(Uf s' s.bs.length r).bs[id]?=s'.bs[id]?:=λid hid=>by simp[*,Uf,Ci]
 have ids:∀id cs,id<s.bs.length->s'.bs[id]?=some cs->Ab s.bs.length cs=true:=λid cs hid hcs=>by
  rw[Cz] at eM;refine eM cs (A2 (i:=id) ?_)
  grind
 have ext:Ext L g w (g'.cut s.bs.length r) w':={
  os:=hx.os,tape:=hx.tape,output:=hx.output,size:=hx.size
  mono:=λb o hi=>.inl (hx.mono b o hi)
  cell:=hx.cell
  blk:=λid b hb=>by
   rcases hx.blk id b hb with k|k
   .grind[OM]
   .exact .inr ⟨hbN id b hb,k⟩
  dead:=λid hd=>⟨hI.Dc id hd,hx.dead id hd⟩
  shape:=λid b hb hb'=>by
   rcases Iu hb' with ⟨_,k⟩|⟨k,_⟩
   .exact hx.shape id b hb k
   grind
  tok:=hx.tok
  GH:=λid b hb hlt=>by
   obtain⟨a1,a2⟩:=hx.GH id b hb (by omega)
   grind[OM]
  Fc:=λt l hl hlt=>by
   obtain⟨a1,a2,a3⟩:=hx.Fc t l hl (by omega);refine⟨a1,a2,λo ho=>a3 o ?_⟩;rcases ho with ho|⟨id,_,_,h3⟩
   .omega
   .exact absurd rfl (GU.DE id l.b t l h3 a1)
  mp:=λid b hb=>OO (hI.mpN hb) (hx.mp id b hb)
  Fe:=λid b hb=>by
   obtain⟨a1,a2⟩:=hx.Fe id b hb;refine⟨λhlt=>a1 (by omega),λo ho=>a2 o ?_⟩;rcases ho with ho|⟨id',_,_,h3⟩
   .omega
   .exact absurd h3 (GU.mpB (hx.mp id b hb))
  KL:=λid b hb hlt=>hx.KL id b (SL hb).2 hlt
  out:=λb hb h1 h2 h3=>by
   obtain⟨a1,a2⟩:=hx.out b hb h1 h2 h3;refine⟨a1,λo ho=>a2 o ?_⟩;rcases ho with ho|⟨id,_,_,h3⟩
   .omega
   .obtain⟨FB,h4⟩:=hx.G9 id b h3 hb
    grind
  G9:=λid b hb hlt=>by
   rcases Iu hb with ⟨_,k⟩|⟨_,FB,_,k⟩
   .exact hx.G9 id b k hlt
   .exact hx.G9 FB b k hlt
  KM:=hx.KM
  C9:=λid hp=>⟨(hI.Dl id hp).1,hx.C9 id hp⟩ }
 have AET:∀FB,r=some FB->∃cs,s'.bs[FB]?=some cs/\(Uf s' s.bs.length r).bs[s.bs.length]?=some cs/\(Uf s' s.bs.length r).bs.length=s.bs.length+1:=λFB e=>by
  obtain⟨_,⟨b,hb⟩,_⟩:=hr FB e;have hlt:=GU.El FB b hb;simp[*,Uf]
 have hlen:s.bs.length<=(Uf s' s.bs.length r).bs.length:=by grind
 refine⟨ext,?_⟩
 exact {
  El:=λid b hb=>by
   rcases Iu hb with ⟨k,_⟩|⟨rfl,FB,e,_⟩
   all_goals grind
  Dc:=λid hd=>by have:=hd.1; omega
  blk:=λid b hb=>by
   rcases Iu hb with ⟨k,hb⟩|⟨rfl,FB,e,hb⟩
   .obtain⟨cs,vs,e,h1,h2,h3,h4⟩:=GU.blk id b hb
    exact⟨cs,vs,e,(get id k).trans h1,h2,h3,h4.keep PT.cut (ids id cs k h1)⟩
   .obtain⟨cs,vs,e',h1,h2,h3,h4⟩:=GU.blk FB b hb
    obtain⟨cs',k1,k2,_⟩:=AET FB e;rw[h1] at k1; simp at k1; subst k1;exact⟨cs,vs,e',k2,h2,h3,h4.keep PT.cut ((hr FB e).2.2 cs h1)⟩
  F3:=λid b o hb hi=>by
   rcases Iu hb with ⟨k,hb⟩|⟨rfl,FB,e,hb⟩
   .rcases hi with hi|⟨id',h1,_,h3⟩
    .exact GU.F3 id b o hb hi
    .have:=GU.Ez id id' b hb h3; omega
   .rcases hi with hi|⟨id',h1,h2,h3⟩
    .exact GU.F3 FB b o hb hi
    .have:=GU.Ez FB id' b hb h3
     grind
  Dd:=λid hd=>(get id hd.1).trans (GU.Dd id hd.2)
  Dl:=λid hp=>by
   obtain⟨a,b,c⟩:=GU.Dl id hp.2
   grind[AH.cut]
  EJ:=λid hid=>by
   by_cases k:id<s.bs.length
   .rcases GU.EJ id (by omega) with ⟨b,hb⟩|hd|hp|⟨b,hm⟩
    .grind[OM]
    .exact .inr (.inl ⟨k,hd⟩)
    .exact .inr (.inr (.inl ⟨k,hp⟩))
    grind[OO]
   .cases e:r with
    | none=>
     grind[Uf]
    | some FB=>
     obtain⟨_,_,_,h3⟩:=AET FB e;rw[h3] at hid;have:id=s.bs.length:=by omega
     simp[*,AH.cut]
  mp:=λid b hb=>by
   obtain⟨k,hm⟩:=SL hb;obtain⟨es,c,h1,h2⟩:=GU.mp id b hm
   grind
  LN:=λid b hb=>by
   obtain⟨k,hm⟩:=SL hb;obtain⟨a1,a2,a3⟩:=GU.LN id b hm
   grind[AH.cut]
  HK:=λid id' b hb hb'=>GU.HK id id' b (SL hb).2 (SL hb').2
  Ge:=GU.Ge
  Gf:=GU.Gf
  tok:=GU.tok
  Gx:=λt l o hl hle hi=>by
   rcases hi with hi|⟨id',_,_,h3⟩
   .exact GU.Gx t l o hl hle hi
   .exact absurd rfl (GU.DE id' l.b t l h3 hl)
  Ez:=λid id' b hb hb'=>by
   rcases Iu hb with ⟨k,hb⟩|⟨rfl,FB,e,hb⟩
   .rcases Iu hb' with ⟨k',hb'⟩|⟨rfl,FB,e,hb'⟩
    .exact GU.Ez id id' b hb hb'
    .have:=GU.Ez id FB b hb hb'
     grind
   .rcases Iu hb' with ⟨k',hb'⟩|⟨rfl,_⟩
    .have:=GU.Ez id' FB b hb' hb
     grind
    rfl
  GK:=GU.GK
  DE:=λid b t l hb hl=>by
   rcases Iu hb with ⟨_,hb⟩|⟨_,FB,_,hb⟩
   .exact GU.DE id b t l hb hl
   .exact GU.DE FB b t l hb hl
  J3:=λb o hi=>by
   rcases hi with hi|⟨id,_,_,h3⟩
   .exact GU.J3 b o hi
   .exact GU.E2 h3
  FZ:=SK GU λ_ _ h=>.inl h
  DZ:=PU GU λ_ _ h=>.inl h }
theorem Zd {E:Env} {L L':A8} {g g':AH} {w w':World} {s s' s'':AM} {r:Bool} {v x:AV} {u:Value} (hI:Inv E g w s) (hro:L'.ro=L.ro) (EU:L'.rt=L.rt) (hx:Ext L' g w g' w') (GU:Inv E g' w' s')
  (hv:V g' w' x u) (h:HP r s.bs.length x s'=some (v,s'')):∃g'',V g'' w' v u/\Ext L g w g'' w'/\Inv E g'' w' s'':=by
 unfold HP at h;cases eM:(s'.bs.take s.bs.length).all (Ab s.bs.length) with
 | false=>grind
 | true=>
  rw[eM] at h;simp only[AN] at h;split at h
  .rename_i id off len sz hnr
   unfold HV at hnr;split at hnr
   .rename_i id' off' len' sz'
    cases hc:(r&&Nat.ble s.bs.length id') with
    | false=>grind
    | true=>
     rw[hc] at hnr;simp at hnr;obtain⟨rfl,rfl,rfl,rfl⟩:=hnr;simp at hc;split at h
     .rename_i c cs hcs
      cases hl:Ab s.bs.length (c::cs) with
      | false=>grind
      | true=>
       rw[hl] at h;simp only[AN,BG,BK] at h;obtain⟨rfl,rfl⟩:=h;cases hv with
       | Im hd=>have:=GU.Dd _ hd; grind
       | @ref _ _ _ _ b cap n e Hz hcap hs hn=>
        obtain⟨r1,r2⟩:=sI (L:=L) (r:=some id') hI hro EU hx GU eM (λid e=>by grind);refine⟨_,?_,r1,?_⟩
        .exact .ref (by grind[AH.cut]) hcap hs hn
        grind[Uf]
     grind
   grind
  .split at h
   .rename_i y hy
    simp only[BG,BK] at h;obtain⟨rfl,rfl⟩:=h;obtain⟨r1,r2⟩:=sI (L:=L) (r:=none) hI hro EU hx GU eM (λid e=>by grind);refine⟨_,?_,r1,?_⟩
    .have hk:Gq s.bs.length s'.ts.length g' (g'.cut s.bs.length none):=⟨λ_ _ a b=>OM a b,λ_ a b=>⟨a,b⟩,λ_ _ _ h=>h,λ_ _ a b=>OO a b,λ_ _ h=>.inl h⟩
     have ho:OL s'.bs s.bs.length g' (g'.cut s.bs.length none) w':=J6 GU hk.mono λid b o h1 h2=>Or.inr ⟨id,h1,by simp,h2⟩
     grind[H6]
    grind[Uf]
   grind
end Go.Tel
