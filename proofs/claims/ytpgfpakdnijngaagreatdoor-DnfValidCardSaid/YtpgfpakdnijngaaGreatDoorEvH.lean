/-
  Returns, part 1: what a value is for one who keeps only the first blocks and tokens.
-/
import Derived.Test.YtpgfpakdnijngaaGreatDoorEvG
set_option linter.all false
namespace Go.Tel
structure HK (n m:Nat) (g' g'':AP):Prop where
 blk:∀id b,id<n->g'.blk id=some b->g''.blk id=some b
 dead:∀id,id<n->g'.dead id->g''.dead id
 tok:∀t l,t<m->g'.tok t=some l->g''.tok t=some l
 mp:∀id b,id<n->g'.mp id=some b->g''.mp id=some b
 mono:∀b o,g'.I b o->g''.I b o
def Pa (bs:List (List AV)) (n:Nat) (g' g'':AP) (w:World):Prop:=
 ∀id off len sz rows v,n<=id->V g' w (.ref id off len sz) v->IZ bs id off len sz=some rows->VP g''.I w (.list rows) v
theorem Pa.nil {n:Nat} {g' g'':AP} {w:World}:Pa [] n g' g'' w:=λ_ _ _ _ _ _ _ _ h=>by grind[IZ]
theorem Ib {E:Env} {g' g'':AP} {w:World} {s:AQ} {n:Nat} (hI:Inv E g' w s) (hmono:∀b o,g'.I b o->g''.I b o) (ADZ:∀id b o,n<=id->g'.blk id=some b->g''.I b o):Pa s.bs n g' g'' w:=by
 intro id off len sz rows v hn hv h;unfold IZ at h;split at h
 .rename_i cs hcs
  split at h
  .rename_i hc
   split at h
   .rename_i ps hps
    simp at h; subst h;cases hv with
    | JQ hd=>
     have:=hI.Dq id hd
     grind
    | @ref _ _ _ _ b cap nn e Il hcap hs tS=>
     obtain⟨cs',vs,e',k1,k2,kle,k3⟩:=hI.blk id b Il;rw[hcs] at k1; simp at k1; subst k1;have hvl:=(k3.drop off).take (len*sz);obtain⟨q1,q2⟩:=HF hvl hps;have tN:(((vs.take cs.length).drop off).take (len*sz)).length=len*sz:=AB;have hfl:Flat g'.I w (CJ sz len ps) sz (((vs.take cs.length).drop off).take (len*sz)):=Ik tN q1 q2;have AYv:Flat g''.I w (CJ sz len ps) sz (((vs.take cs.length).drop off).take (len*sz)):=hfl.mono hmono (λ_ _ _=>rfl);have hra:=AYv.iP (b:=b) (o:=off) (λq _=>ADZ id b _ hn Il) (λq u hq=>by grind[Bw])
     grind[VP.JP,Fi]
   grind
  grind
 grind
mutual
theorem Im {g' g'':AP} {w:World} {bs:List (List AV)} {n m:Nat} (hI:Pa bs n g' g'' w) (hk:HK n m g' g''):∀(x y:AV) (v:Value),close bs n m x=some y->V g' w x v->V g'' w y v
 | .pv p,y,v,h,hv=>by
  simp[close] at h; subst h;cases hv with|pv hv=>exact .pv (hv.mono hk.mono λ_ _ _=>rfl)
 | .ptr id off,y,v,h,hv=>by
  simp only[close] at h;split at h
  .rename_i hid
   simp at h; subst h;cases hv with
   | ptr hb=>exact .ptr (hk.blk _ _ hid hb)
   | Ls hd=>exact .Ls (hk.dead _ hid hd)
  grind
 | .Dt gl off,y,v,h,hv=>by
  simp[close] at h; subst h;cases hv with|Dt=>exact .Dt _ _
 | .Ct row off,y,v,h,hv=>by
  simp[close] at h; subst h;cases hv with
  | Ct _ f hr=>exact .Ct _ f λj c hj=>⟨hk.mono _ _ (hr j c hj).1,(hr j c hj).2.1,(hr j c hj).2.2.mono hk.mono λ_ _ _=>rfl⟩
 | .AE rows,y,v,h,hv=>by
  simp[close] at h; subst h;cases hv with|AE hr=>exact .AE (hr.mono hk.mono λ_ _ _=>rfl)
 | .own t rows,y,v,h,hv=>by
  simp only[close] at h;split at h
  .rename_i ht
   simp at h; subst h;cases hv with|own hr hcap XQ hn hf=>exact .own (hr.mono hk.mono λ_ _ _=>rfl) hcap (hk.tok _ _ ht XQ) hn hf
  .simp at h; subst h
   cases hv with|own hr hcap XQ hn hf=>exact .pv (VP.JP (hr.mono hk.mono λ_ _ _=>rfl) hcap)
 | .ref id off len sz,y,v,h,hv=>by
  simp only[close] at h;split at h
  .rename_i hid
   simp at h; subst h;cases hv with
   | ref hb hcap hs hn=>exact .ref (hk.blk _ _ hid hb) hcap hs hn
   | JQ hd=>exact .JQ (hk.dead _ hid hd)
  .rename_i hid
   split at h
   .rename_i rows hr
    simp at h; subst h;exact .pv (hI _ _ _ _ _ _ AA hv hr)
   grind
 | .func fn a b,y,v,h,hv=>by
  simp only[close] at h;split at h
  .rename_i a' b' ha hb
   simp at h; subst h;obtain⟨vs,us,rfl,h1,h2⟩:=hv.cE;have k1:=FZ hI hk a a' vs ha h1;have k2:=FZ hI hk b b' us hb h2;exact .func k1.len k2.len k1.at_ k2.at_
  grind
 | .iface t x,y,v,h,hv=>by
  simp only[close] at h;split at h
  .rename_i x' hx
   simp at h; subst h;cases hv with|iface hv=>exact .iface (Im hI hk x x' _ hx hv)
  grind
 | .agg cs,y,v,h,hv=>by
  simp only[close] at h;split at h
  .rename_i cs' hx
   simp at h; subst h;obtain⟨vs,rfl,h1⟩:=hv.ZS;exact V.uJ (FZ hI hk cs cs' vs hx h1)
  grind
 | .tuple cs,y,v,h,hv=>by
  simp only[close] at h;split at h
  .rename_i cs' hx
   simp at h; subst h;obtain⟨vs,rfl,h1⟩:=hv.Qo;exact V.tuple' (FZ hI hk cs cs' vs hx h1)
  grind
 | .Gm,y,v,h,hv=>by
  simp[close] at h; subst h;cases hv with|Gm=>exact .Gm
 | .HY id,y,v,h,hv=>by
  simp only[close] at h;split at h
  .rename_i hid
   simp at h; subst h;cases hv with|HY hb=>exact .HY (hk.mp _ _ hid hb)
  grind
 | .PN _ _,y,v,h,hv=>by grind[close]
 | .bz id t k,y,v,h,hv=>by
  simp only[close] at h;split at h
  .rename_i hid
   simp at h; subst h;cases hv with
   | bz hb hs=>exact .bz (hk.blk _ _ hid hb) hs
   | tK hd=>exact .tK (hk.dead _ hid hd)
  grind
theorem FZ {g' g'':AP} {w:World} {bs:List (List AV)} {n m:Nat} (hI:Pa bs n g' g'' w) (hk:HK n m g' g''):∀(xs ys:List AV) (vs:List Value),BK bs n m xs=some ys->VL g' w xs vs->VL g'' w ys vs
 | [],ys,vs,h,hv=>by
  simp[BK] at h; subst h;rw[hv.GO];exact .nil
 | x::xs,ys,vs,h,hv=>by
  simp only[BK] at h;split at h
  .rename_i c cs hc hcs
   simp at h; subst h;obtain⟨u,us,rfl,h1,h2⟩:=hv.cases;exact .cons (Im hI hk x c u hc h1) (FZ hI hk xs cs us hcs h2)
  grind
end
mutual
theorem UA (n m:Nat):∀x:AV,FR x=true->close [] n m x=some x
 | .pv _,_=>by rfl
 | .ptr _ _,h=>by grind[FR]
 | .Dt _ _,_=>by rfl
 | .Ct _ _,_=>by rfl
 | .AE _,_=>by rfl
 | .own _ _,h=>by grind[FR]
 | .ref _ _ _ _,h=>by grind[FR]
 | .func _ a b,h=>by
  simp only[FR,AI] at h;simp[close,HL n m a h.1,HL n m b h.2]
 | .iface _ x,h=>by
  simp only[FR] at h;simp[close,UA n m x h]
 | .agg cs,h=>by
  simp only[FR] at h;simp[close,HL n m cs h]
 | .tuple cs,h=>by
  simp only[FR] at h;simp[close,HL n m cs h]
 | .Gm,_=>by rfl
 | .HY _,h=>by grind[FR]
 | .PN _ _,h=>by grind[FR]
 | .bz _ _ _,h=>by grind[FR]
theorem HL (n m:Nat):∀xs:List AV,C7 xs=true->BK [] n m xs=some xs
 | [],_=>by rfl
 | x::xs,h=>by
  simp only[C7,AI] at h;simp[BK,UA n m x h.1,HL n m xs h.2]
end
theorem IG {n:Nat}:∀{cs:List AV} {i:Nat} {c:AV},Ag n cs=true->cs[i]?=some c->Ax n c=true
 | [],_,_,_,h=>by grind
 | x::xs,0,c,h,hc=>by grind[Ag]
 | x::xs,i+1,c,h,hc=>by
  simp only[Ag,AI] at h;exact IG h.2 Ba
structure Qz (n:Nat) (g' g'':AP):Prop where
 blk:∀id b,id<n->g'.blk id=some b->g''.blk id=some b
 dead:∀id,id<n->g'.dead id->g''.dead id
 tok:∀t l,g'.tok t=some l->g''.tok t=some l
 mp:∀id b,id<n->g'.mp id=some b->g''.mp id=some b
 mono:∀b o,g'.I b o->g''.I b o
theorem V.keep {n:Nat} {g' g'':AP} {w:World} (hk:Qz n g' g'') {x:AV} {v:Value} (h:V g' w x v) (hn:Ax n x=true):V g'' w x v:=by
 induction h with
 | pv h=>exact .pv (h.mono hk.mono λ_ _ _=>rfl)
 | ptr h=>exact .ptr (hk.blk _ _ (by simp_all[Ax]) h)
 | Ls h=>exact .Ls (hk.dead _ (by simp_all[Ax]) h)
 | Dt gl off=>grind[Dt]
 | Ct off f h=>exact .Ct off f λj c hj=>⟨hk.mono _ _ (h j c hj).1,(h j c hj).2.1,(h j c hj).2.2.mono hk.mono λ_ _ _=>rfl⟩
 | AE h=>exact .AE (h.mono hk.mono λ_ _ _=>rfl)
 | own h hcap ht hn' hf=>exact .own (h.mono hk.mono λ_ _ _=>rfl) hcap (hk.tok _ _ ht) hn' hf
 | ref h hcap hs hn'=>exact .ref (hk.blk _ _ (by simp_all[Ax]) h) hcap hs hn'
 | JQ h=>exact .JQ (hk.dead _ (by simp_all[Ax]) h)
 | Gm=>exact .Gm
 | HY h=>exact .HY (hk.mp _ _ (by simp_all[Ax]) h)
 | bz h hs=>exact .bz (hk.blk _ _ (by simp_all[Ax]) h) hs
 | tK h=>exact .tK (hk.dead _ (by simp_all[Ax]) h)
 | func hl hm _ _ ih ik=>
  grind[Ax,func,IG]
 | iface _ ih=>grind[iface,Ax]
 | agg hl _ ih=>grind[agg,IG,Ax]
 | tuple hl _ ih=>grind[tuple,IG,Ax]
theorem VL.keep {n:Nat} {g' g'':AP} {w:World} (hk:Qz n g' g'') {xs:List AV} {vs:List Value} (h:VL g' w xs vs) (hn:Ag n xs=true):VL g'' w xs vs:=
 ⟨h.len,λi c v h1 h2=>(h.at_ i c v h1 h2).keep hk (IG hn h1)⟩
def AP.Mq (g:AP) (I:Nat->Nat->Prop):AP:={ g with I:=I }
theorem UB {E:Env} {L:BI} {g:AP} {w w':World} {s:AQ} {I:Nat->Nat->Prop} (hI:Inv E g w s) (os:w'.os=w.os) (tape:w'.tape=w.tape) (output:w'.output=w.output) (size:w.heap.size<=w'.heap.size)
  (mono:∀b o,g.I b o->I b o) (keep:∀b,b<w.heap.size->w'.heap[b]?=w.heap[b]?/\∀o,I b o->g.I b o) (Jq:∀b o,I b o->b<w'.heap.size)
  (FL:∀gl row,E.G gl=some row->∀j c,row[j]?=some c->∃v,I gl j/\w'.cell? ⟨gl,j,none⟩=some v/\VP I w' c v) (DG:∀gl row,E.G gl=some row->I gl row.length/\w'.cell? ⟨gl,row.length,none⟩=none) :
  Ext L g w (g.Mq I) w'/\Inv E (g.Mq I) w' s:=by
 have ext:Ext L g w (g.Mq I) w':={
  os:=os,tape:=tape,output:=output,size:=size,mono:=mono
  cell:=λb o hi=>Cb (keep b (hI.Jq b o hi)).1 o
  blk:=λ_ _ hb=>.inl hb
  dead:=λ_ hd=>hd
  shape:=λ_ b hb _=>EE (keep b (hI.E5 hb)).1
  tok:=λ_ l hl=>⟨l,hl,.inl rfl⟩
  Ge:=λ_ b hb _=>⟨hb,(keep b (hI.E5 hb)).1⟩
  F1:=λ_ l hl _=>⟨hl,(keep l.b (hI.Hg hl)).1,(keep l.b (hI.Hg hl)).2⟩
  out:=λb hb _ _ _=>keep b hb
  mp:=λ_ _ hb=>hb
  F2:=λ_ b hb=>⟨λ_=>(keep b (hI.PS hb)).1,(keep b (hI.PS hb)).2⟩
  LB:=λid _ hb _=>⟨id,hb⟩
  HZ:=λid _ hb _=>⟨id,hb⟩
  LC:=λ_ l hl _=>⟨l,hl,rfl⟩
  DM:=λ_ hp=>hp }
 refine⟨ext,?_⟩
 exact {
  E4:=hI.E4,Dp:=hI.Dp,Dq:=hI.Dq,Dx:=hI.Dx,Ee:=hI.Ee,G4:=hI.G4,G5:=hI.G5,FK:=hI.FK,Gi:=hI.Gi,DN:=hI.DN,Jq:=Jq,FL:=FL,DG:=DG,MQ:=hI.MQ,Hu:=hI.Hu
  mp:=hI.I5 (λ_ _ _=>rfl) (λ_ b hb=>(keep b (hI.PS hb)).1)
  blk:=λid b hb=>by
   obtain⟨cs,vs,e,h1,h2,h3,h4⟩:=hI.blk id b hb;exact⟨cs,vs,e,h1,(keep b (hI.E5 hb)).1.trans h2,h3,h4.mono ext⟩
  F3:=λid b o hb hi=>hI.F3 id b o hb ((keep b (hI.E5 hb)).2 o hi)
  tok:=λt l hl=>by
   obtain⟨vs,e,h1,h2⟩:=hI.tok t l hl
   grind
  G6:=λt l o hl hle hi=>hI.G6 t l o hl hle ((keep l.b (hI.Hg hl)).2 o hi) }
def AP.H6 (g:AP) (n:Nat) (b o:Nat):Prop:=g.I b o\/∃id,n<=id/\g.blk id=some b
theorem Pb {E:Env} {g':AP} {w':World} {s':AQ} {I:Nat->Nat->Prop} (hI:Inv E g' w' s') (hm:∀b o,g'.I b o->I b o) :
  ∀gl row,E.G gl=some row->∀j c,row[j]?=some c->∃v,I gl j/\w'.cell? ⟨gl,j,none⟩=some v/\VP I w' c v:=λgl row hr j c hj=>by
 obtain⟨v,h1,h2,h3⟩:=hI.FL gl row hr j c hj;exact⟨v,hm _ _ h1,h2,h3.mono hm λ_ _ _=>rfl⟩
theorem Nr {E:Env} {g':AP} {w':World} {s':AQ} {I:Nat->Nat->Prop} (hI:Inv E g' w' s') (hm:∀b o,g'.I b o->I b o) :
  ∀gl row,E.G gl=some row->I gl row.length/\w'.cell? ⟨gl,row.length,none⟩=none:=λgl row hr=>⟨hm _ _ (hI.DG gl row hr).1,(hI.DG gl row hr).2⟩
theorem ABU {E:Env} {L:BI} {g g':AP} {w w':World} {s s':AQ} (hI:Inv E g w s) (hx:Ext L g w g' w') (Gp:Inv E g' w' s') {id b:Nat} (hid:id<s.bs.length) (hb:g'.blk id=some b):∃b0,g.blk id=some b0/\b0=b:=by
 rcases hI.Ee id hid with ⟨b0,h0⟩|hd|hp|⟨b0,hm⟩
 .rcases hx.blk id b0 h0 with k|k
  .grind
  .rw[g'.hd id k] at hb; grind
 .rw[g'.hd id (hx.dead id hd)] at hb; grind
 .rw[(Gp.Dx id (hx.DM id hp)).2.1] at hb; grind
 .rw[(Gp.MQ id b0 (hx.mp id b0 hm)).1] at hb; grind
theorem AGx {E:Env} {L:BI} {g g':AP} {w w':World} {s s':AQ} (hI:Inv E g w s) (hx:Ext L g w g' w') (Gp:Inv E g' w' s') {id:Nat} (hid:id<s.bs.length):id<s'.bs.length:=by
 rcases hI.Ee id hid with ⟨b0,h0⟩|hd|hp|⟨b0,hm⟩
 .rcases hx.blk id b0 h0 with k|k
  .exact Gp.E4 id b0 k
  .exact Gp.Dp id k
 .exact Gp.Dp id (hx.dead id hd)
 .exact(Gp.Dx id (hx.DM id hp)).1
 .exact Gp.mpN (hx.mp id b0 hm)
theorem AGy {E:Env} {L:BI} {g g':AP} {w w':World} {s s':AQ} (hI:Inv E g w s) (hx:Ext L g w g' w') (Gp:Inv E g' w' s') {id b:Nat} (hid:id<s.bs.length) (hb:g'.mp id=some b):g.mp id=some b:=by
 obtain⟨x1,x2,x3⟩:=Gp.MQ id b hb;rcases hI.Ee id hid with ⟨b0,h0⟩|hd|hp|⟨b0,hm⟩
 .rcases hx.blk id b0 h0 with k|k
  all_goals grind
 .exact absurd (hx.dead id hd) x2
 .exact absurd (hx.DM id hp) x3
 .rw[hx.mp id b0 hm] at hb
  grind
theorem AGz {E:Env} {L L':BI} {g g':AP} {w w':World} {s s':AQ} (hI:Inv E g w s) (hro:L'.ro=s.bs.length) (El:L'.rt=s.ts.length) (hx:Ext L' g w g' w') (Gp:Inv E g' w' s') :
  Ext L g w (g.Mq (g'.H6 s.bs.length)) w'/\Inv E (g.Mq (g'.H6 s.bs.length)) w' s/\HK s.bs.length s.ts.length g' (g.Mq (g'.H6 s.bs.length))/\Pa s'.bs s.bs.length g' (g.Mq (g'.H6 s.bs.length)) w':=by
 have hkb:∀id b,g.blk id=some b->g'.blk id=some b/\w'.heap[b]?=w.heap[b]?:=λid b hb=>hx.Ge id b hb (by rw[hro]; exact hI.E4 id b hb)
 have hkt:∀t l,g.tok t=some l->g'.tok t=some l/\w'.heap[l.b]?=w.heap[l.b]?/\∀o,g'.I l.b o->g.I l.b o:=λt l hl=>hx.F1 t l hl (by
  have:=hI.G5 t l hl
  grind)
 have hmono:∀b o,g'.I b o->g'.H6 s.bs.length b o:=λ_ _ h=>.inl h
 have keep:∀b,b<w.heap.size->w'.heap[b]?=w.heap[b]?/\∀o,g'.H6 s.bs.length b o->g.I b o:=λb hb=>by
  by_cases h1:∃id,g.blk id=some b
  .obtain⟨id,h1⟩:=h1
   obtain⟨a1,a2⟩:=hkb id b h1;refine⟨a2,λo ho=>?_⟩;rcases ho with ho|⟨id',h2,h3⟩
   .exact absurd ho (Gp.F3 id b o a1)
   .have:=Gp.FK id id' b a1 h3
    have:=hI.E4 id b h1;omega
  .have bV:∀id,g.blk id≠some b:=λid e=>h1 ⟨id,e⟩
   have hno:∀id',g'.blk id'≠some b:=λid' h3=>by
    obtain⟨FV,h4⟩:=hx.HZ id' b h3 hb
    grind
   by_cases hm:∃id,g.mp id=some b
   .obtain⟨id,hm⟩:=hm
    obtain⟨a1,a2⟩:=hx.F2 id b hm;refine⟨a1 (by rw[hro]; exact hI.mpN hm),λo ho=>?_⟩;rcases ho with ho|⟨id',_,h3⟩
    all_goals grind
   have hm':∀id,g.mp id≠some b:=λid e=>hm ⟨id,e⟩
   by_cases h2:∃t l,g.tok t=some l/\l.b=b
   .obtain⟨t,l,h2,rfl⟩:=h2
    obtain⟨_,a2,a3⟩:=hkt t l h2;refine⟨a2,λo ho=>?_⟩;rcases ho with ho|⟨id',_,h3⟩
    all_goals grind
   .obtain⟨a1,a2⟩:=hx.out b hb bV (λt l hl e=>h2 ⟨t,l,hl,e⟩) hm'
    refine⟨a1,λo ho=>?_⟩;rcases ho with ho|⟨id',_,h3⟩
    all_goals grind
 have AG0:∀b o,g'.H6 s.bs.length b o->b<w'.heap.size:=λb o ho=>by
  rcases ho with ho|⟨id',_,h3⟩
  .exact Gp.Jq b o ho
  .exact Gp.E5 h3
 obtain⟨r1,r2⟩:=UB (L:=L) hI hx.os hx.tape hx.output hx.size (λb o h=>hmono b o (hx.mono b o h)) keep AG0 (Pb Gp hmono) (Nr Gp hmono);refine⟨r1,r2,⟨λid b hid hb=>?_,λid hid hd=>?_,λt l ht hl=>?_,λid b hid hb=>AGy hI hx Gp hid hb,hmono⟩,Ib Gp hmono λid b o hid hb=>.inr ⟨id,hid,hb⟩⟩
 .obtain⟨b0,h0,rfl⟩:=ABU hI hx Gp hid hb
  exact h0
 .rcases hI.Ee id hid with ⟨b0,h0⟩|hd' | hp|⟨b0,hm⟩
  .have:=(hkb id b0 h0).1
   rw[g'.hd id hd] at this; grind
  .exact hd'
  .exact absurd hd (Gp.Dx id (hx.DM id hp)).2.2
  .exact absurd hd (Gp.MQ id b0 (hx.mp id b0 hm)).2.1
 .have hs:s.ts[t]?=some (s.ts[t].1,s.ts[t].2):=by grind
  obtain⟨l0,h0,_⟩:=hI.G4 t _ _ hs;have:=(hkt t l0 h0).1;rw[hl] at this; simp at this; subst this;exact h0
def AP.bare (I:Nat->Nat->Prop):AP:=⟨λ_=>none,λ_=>False,λ_=>False,λ_=>none,λ_=>none,I,λ_ h=>h.elim⟩
theorem Inv.bare {E:Env} {g:AP} {w:World} {s:AQ} (h:Inv E g w s):Inv E (AP.bare g.I) w ⟨[],[]⟩ where
 E4:=λ_ _ h=>by grind[AP.bare]
 Dp:=λ_ h=>by grind[AP.bare]
 blk:=λ_ _ h=>by grind[AP.bare]
 F3:=λ_ _ _ h=>by grind[AP.bare]
 Dq:=λ_ h=>by grind[AP.bare]
 Dx:=λ_ h=>by grind[AP.bare]
 Ee:=λ_ h=>by grind
 mp:=λ_ _ h=>by grind[AP.bare]
 MQ:=λ_ _ h=>by grind[AP.bare]
 Hu:=λ_ _ _ h=>by grind[AP.bare]
 G4:=λ_ _ _ h=>by grind
 G5:=λ_ _ h=>by grind[AP.bare]
 tok:=λ_ _ h=>by grind[AP.bare]
 G6:=λ_ _ _ h=>by grind[AP.bare]
 FK:=λ_ _ _ h=>by grind[AP.bare]
 Gi:=λ_ _ _ _ h=>by grind[AP.bare]
 DN:=λ_ _ _ _ h=>by grind[AP.bare]
 Jq:=h.Jq
 FL:=h.FL
 DG:=h.DG
theorem HK.bare {g:AP}:HK 0 0 g (AP.bare g.I):=⟨λ_ _ h=>absurd h (Ez _),λ_ h=>absurd h (Ez _),λ_ _ h=>absurd h (Ez _),λ_ _ h=>absurd h (Ez _),λ_ _ h=>h⟩
theorem uv {E:Env} {L L':BI} {g g':AP} {w w':World} {s s':AQ} (hI:Inv E g w s) (hx:Ext L' (AP.bare g.I) w g' w') (Gp:Inv E g' w' s') :
  Ext L g w (g.Mq (g'.H6 0)) w'/\Inv E (g.Mq (g'.H6 0)) w' s/\HK 0 0 g' (g.Mq (g'.H6 0))/\Pa s'.bs 0 g' (g.Mq (g'.H6 0)) w':=by
 have hmono:∀b o,g'.I b o->g'.H6 0 b o:=λ_ _ h=>.inl h
 have keep:∀b,b<w.heap.size->w'.heap[b]?=w.heap[b]?/\∀o,g'.H6 0 b o->g.I b o:=λb hb=>by
  obtain⟨a1,a2⟩:=hx.out b hb (λ_ e=>by grind[AP.bare]) (λ_ _ e=>by grind[AP.bare]) (λ_ e=>by grind[AP.bare]);refine⟨a1,λo ho=>?_⟩;rcases ho with ho|⟨id',_,h3⟩
  .exact a2 o ho
  .obtain⟨FV,h4⟩:=hx.HZ id' b h3 hb
   grind[AP.bare]
 have AG0:∀b o,g'.H6 0 b o->b<w'.heap.size:=λb o ho=>by
  rcases ho with ho|⟨id',_,h3⟩
  .exact Gp.Jq b o ho
  .exact Gp.E5 h3
 obtain⟨r1,r2⟩:=UB (L:=L) hI hx.os hx.tape hx.output hx.size (λb o h=>hmono b o (hx.mono b o h)) keep AG0 (Pb Gp hmono) (Nr Gp hmono);exact⟨r1,r2,⟨λ_ _ h=>absurd h (Ez _),λ_ h=>absurd h (Ez _),λ_ _ h=>absurd h (Ez _),λ_ _ h=>absurd h (Ez _),hmono⟩,Ib Gp hmono λid b o hid hb=>.inr ⟨id,hid,hb⟩⟩
def AP.cut (g:AP) (n:Nat) (r:Option Nat):AP where
 blk id:=if id<n then g.blk id else if id=n then r.bind g.blk else none
 dead id:=id<n/\g.dead id
 DM id:=id<n/\g.DM id
 tok:=g.tok
 mp id:=if id<n then g.mp id else none
 I b o:=g.I b o\/∃id,n<=id/\r≠some id/\g.blk id=some b
 hd id h:=by simp[h.1,g.hd id h.2]
theorem JT {g:AP} {n:Nat} {r:Option Nat} {id b:Nat} (h:(g.cut n r).blk id=some b):(id<n/\g.blk id=some b)\/(id=n/\∃FV,r=some FV/\g.blk FV=some b):=by
 simp only[AP.cut] at h;split at h
 .grind
 .split at h
  .rename_i hid
   cases r with
   | none=>grind
   | some FV=>grind
  grind
theorem Pc {g:AP} {n:Nat} {r:Option Nat} {id b:Nat} (hid:id<n) (h:g.blk id=some b):(g.cut n r).blk id=some b:=by grind[AP.cut]
theorem UC {g:AP} {n:Nat} {r:Option Nat} {id b:Nat} (h:(g.cut n r).mp id=some b):id<n/\g.mp id=some b:=by grind[AP.cut]
theorem Pd {g:AP} {n:Nat} {r:Option Nat} {id b:Nat} (hid:id<n) (h:g.mp id=some b):(g.cut n r).mp id=some b:=by grind[AP.cut]
theorem Qz.cut {g:AP} {n:Nat} {r:Option Nat}:Qz n g (g.cut n r):=
 ⟨λ_ _ hid hb=>Pc hid hb,λ_ hid hd=>⟨hid,hd⟩,λ_ _ h=>h,λ_ _ hid hb=>Pd hid hb,λ_ _ h=>.inl h⟩
def Wh (s:AQ) (n:Nat) (r:Option Nat):AQ:=⟨s.bs.take n++(match r with|none=>[]|some id=>(s.bs[id]?).toList),s.ts⟩
theorem uw {E:Env} {L L':BI} {g g':AP} {w w':World} {s s':AQ} {r:Option Nat} (hI:Inv E g w s) (hro:L'.ro=L.ro) (El:L'.rt=L.rt) (hx:Ext L' g w g' w') (Gp:Inv E g' w' s')
  (UD:(s'.bs.take s.bs.length).all (Ag s.bs.length)=true)
  (hr:∀id,r=some id->s.bs.length<=id/\(∃b,g'.blk id=some b)/\∀cs,s'.bs[id]?=some cs->Ag s.bs.length cs=true) :
  Ext L g w (g'.cut s.bs.length r) w'/\Inv E (g'.cut s.bs.length r) w' (Wh s' s.bs.length r):=by
 have hle:s.bs.length<=s'.bs.length:=by
  rcases Fq 0 s.bs.length with k|k
  .have:=AGx hI hx Gp (id:=s.bs.length-1) AA; omega
  omega
 have htl:(s'.bs.take s.bs.length).length=s.bs.length:=AB;have hbN:∀id b,g.blk id=some b->id<s.bs.length:=hI.E4
 have hno:∀b o,(∀id,g'.blk id=some b->id<s.bs.length)->(g'.cut s.bs.length r).I b o->g'.I b o:=λb o h hi=>by
  rcases hi with hi|⟨id,h1,_,h3⟩
  all_goals grind
 have get:∀id,id<s.bs.length->(Wh s' s.bs.length r).bs[id]?=s'.bs[id]?:=λid hid=>by simp[*,Wh,CX]
 have ids:∀id cs,id<s.bs.length->s'.bs[id]?=some cs->Ag s.bs.length cs=true:=λid cs hid hcs=>by
  rw[DE] at UD;refine UD cs (A5 (i:=id) ?_)
  grind
 have ext:Ext L g w (g'.cut s.bs.length r) w':={
  os:=hx.os,tape:=hx.tape,output:=hx.output,size:=hx.size
  mono:=λb o hi=>.inl (hx.mono b o hi)
  cell:=hx.cell
  blk:=λid b hb=>by
   rcases hx.blk id b hb with k|k
   .grind[Pc]
   .exact .inr ⟨hbN id b hb,k⟩
  dead:=λid hd=>⟨hI.Dp id hd,hx.dead id hd⟩
  shape:=λid b hb hb'=>by
   rcases JT hb' with ⟨_,k⟩|⟨k,_⟩
   .exact hx.shape id b hb k
   grind
  tok:=hx.tok
  Ge:=λid b hb hlt=>by
   obtain⟨a1,a2⟩:=hx.Ge id b hb AA
   grind[Pc]
  F1:=λt l hl hlt=>by
   obtain⟨a1,a2,a3⟩:=hx.F1 t l hl AA;refine⟨a1,a2,λo ho=>a3 o ?_⟩;rcases ho with ho|⟨id,_,_,h3⟩
   .omega
   .exact absurd rfl (Gp.DN id l.b t l h3 a1)
  mp:=λid b hb=>Pd (hI.mpN hb) (hx.mp id b hb)
  F2:=λid b hb=>by
   obtain⟨a1,a2⟩:=hx.F2 id b hb;refine⟨λhlt=>a1 AA,λo ho=>a2 o ?_⟩;rcases ho with ho|⟨id',_,_,h3⟩
   .omega
   .exact absurd h3 (Gp.mpB (hx.mp id b hb))
  LB:=λid b hb hlt=>hx.LB id b (UC hb).2 hlt
  out:=λb hb h1 h2 h3=>by
   obtain⟨a1,a2⟩:=hx.out b hb h1 h2 h3;refine⟨a1,λo ho=>a2 o ?_⟩;rcases ho with ho|⟨id,_,_,h3⟩
   .omega
   .obtain⟨FV,h4⟩:=hx.HZ id b h3 hb
    grind
  HZ:=λid b hb hlt=>by
   rcases JT hb with ⟨_,k⟩|⟨_,FV,_,k⟩
   .exact hx.HZ id b k hlt
   .exact hx.HZ FV b k hlt
  LC:=hx.LC
  DM:=λid hp=>⟨(hI.Dx id hp).1,hx.DM id hp⟩ }
 have ADa:∀FV,r=some FV->∃cs,s'.bs[FV]?=some cs/\(Wh s' s.bs.length r).bs[s.bs.length]?=some cs/\(Wh s' s.bs.length r).bs.length=s.bs.length+1:=λFV e=>by
  obtain⟨_,⟨b,hb⟩,_⟩:=hr FV e;have hlt:=Gp.E4 FV b hb;simp[*,Wh]
 have hlen:s.bs.length<=(Wh s' s.bs.length r).bs.length:=AB;refine⟨ext,?_⟩
 exact {
  E4:=λid b hb=>by
   rcases JT hb with ⟨k,_⟩|⟨rfl,FV,e,_⟩
   all_goals grind
  Dp:=λid hd=>by have:=hd.1; omega
  blk:=λid b hb=>by
   rcases JT hb with ⟨k,hb⟩|⟨rfl,FV,e,hb⟩
   .obtain⟨cs,vs,e,h1,h2,h3,h4⟩:=Gp.blk id b hb
    exact⟨cs,vs,e,(get id k).trans h1,h2,h3,h4.keep Qz.cut (ids id cs k h1)⟩
   .obtain⟨cs,vs,e',h1,h2,h3,h4⟩:=Gp.blk FV b hb
    obtain⟨cs',k1,k2,_⟩:=ADa FV e;rw[h1] at k1; simp at k1; subst k1;exact⟨cs,vs,e',k2,h2,h3,h4.keep Qz.cut ((hr FV e).2.2 cs h1)⟩
  F3:=λid b o hb hi=>by
   rcases JT hb with ⟨k,hb⟩|⟨rfl,FV,e,hb⟩
   .rcases hi with hi|⟨id',h1,_,h3⟩
    .exact Gp.F3 id b o hb hi
    .have:=Gp.FK id id' b hb h3; omega
   .rcases hi with hi|⟨id',h1,h2,h3⟩
    .exact Gp.F3 FV b o hb hi
    .have:=Gp.FK FV id' b hb h3
     grind
  Dq:=λid hd=>(get id hd.1).trans (Gp.Dq id hd.2)
  Dx:=λid hp=>by
   obtain⟨a,b,c⟩:=Gp.Dx id hp.2
   grind[AP.cut]
  Ee:=λid hid=>by
   by_cases k:id<s.bs.length
   .rcases Gp.Ee id AA with ⟨b,hb⟩|hd|hp|⟨b,hm⟩
    .grind[Pc]
    .exact .inr (.inl ⟨k,hd⟩)
    .exact .inr (.inr (.inl ⟨k,hp⟩))
    grind[Pd]
   .cases e:r with
    | none=>
     grind[Wh]
    | some FV=>
     obtain⟨_,_,_,h3⟩:=ADa FV e;rw[h3] at hid;have:id=s.bs.length:=AA;simp[*,AP.cut]
  mp:=λid b hb=>by
   obtain⟨k,hm⟩:=UC hb;obtain⟨es,c,h1,h2⟩:=Gp.mp id b hm
   grind
  MQ:=λid b hb=>by
   obtain⟨k,hm⟩:=UC hb;obtain⟨a1,a2,a3⟩:=Gp.MQ id b hm
   grind[AP.cut]
  Hu:=λid id' b hb hb'=>Gp.Hu id id' b (UC hb).2 (UC hb').2
  G4:=Gp.G4
  G5:=Gp.G5
  tok:=Gp.tok
  G6:=λt l o hl hle hi=>by
   rcases hi with hi|⟨id',_,_,h3⟩
   .exact Gp.G6 t l o hl hle hi
   .exact absurd rfl (Gp.DN id' l.b t l h3 hl)
  FK:=λid id' b hb hb'=>by
   rcases JT hb with ⟨k,hb⟩|⟨rfl,FV,e,hb⟩
   .rcases JT hb' with ⟨k',hb'⟩|⟨rfl,FV,e,hb'⟩
    .exact Gp.FK id id' b hb hb'
    .have:=Gp.FK id FV b hb hb'
     grind
   .rcases JT hb' with ⟨k',hb'⟩|⟨rfl,_⟩
    .have:=Gp.FK id' FV b hb' hb
     grind
    rfl
  Gi:=Gp.Gi
  DN:=λid b t l hb hl=>by
   rcases JT hb with ⟨_,hb⟩|⟨_,FV,_,hb⟩
   .exact Gp.DN id b t l hb hl
   .exact Gp.DN FV b t l hb hl
  Jq:=λb o hi=>by
   rcases hi with hi|⟨id,_,_,h3⟩
   .exact Gp.Jq b o hi
   .exact Gp.E5 h3
  FL:=Pb Gp λ_ _ h=>.inl h
  DG:=Nr Gp λ_ _ h=>.inl h }
theorem cQ {E:Env} {L L':BI} {g g':AP} {w w':World} {s s' s'':AQ} {r:Bool} {v x:AV} {u:Value} (hI:Inv E g w s) (hro:L'.ro=L.ro) (El:L'.rt=L.rt) (hx:Ext L' g w g' w') (Gp:Inv E g' w' s')
  (hv:V g' w' x u) (h:Hy r s.bs.length x s'=some (v,s'')):∃g'',V g'' w' v u/\Ext L g w g'' w'/\Inv E g'' w' s'':=by
 unfold Hy at h;cases UD:(s'.bs.take s.bs.length).all (Ag s.bs.length) with
 | false=>grind
 | true=>
  rw[UD] at h;simp only[AN] at h;split at h
  .rename_i id off len sz hnr
   unfold IC at hnr;split at hnr
   .rename_i id' off' len' sz'
    cases hc:(r&&Nat.ble s.bs.length id') with
    | false=>grind
    | true=>
     rw[hc] at hnr;simp at hnr;obtain⟨rfl,rfl,rfl,rfl⟩:=hnr;simp at hc;split at h
     .rename_i c cs hcs
      cases hl:Ag s.bs.length (c::cs) with
      | false=>grind
      | true=>
       rw[hl] at h;simp only[AN,BN,BT] at h;obtain⟨rfl,rfl⟩:=h;cases hv with
       | JQ hd=>have:=Gp.Dq _ hd; grind
       | @ref _ _ _ _ b cap n e Il hcap hs hn=>
        obtain⟨r1,r2⟩:=uw (L:=L) (r:=some id') hI hro El hx Gp UD (λid e=>by grind);refine⟨_,?_,r1,?_⟩
        .exact .ref (by grind[AP.cut]) hcap hs hn
        grind[Wh]
     grind
   grind
  .split at h
   .rename_i y hy
    simp only[BN,BT] at h;obtain⟨rfl,rfl⟩:=h;obtain⟨r1,r2⟩:=uw (L:=L) (r:=none) hI hro El hx Gp UD (λid e=>by grind);refine⟨_,?_,r1,?_⟩
    .have hk:HK s.bs.length s'.ts.length g' (g'.cut s.bs.length none):=⟨λ_ _ a b=>Pc a b,λ_ a b=>⟨a,b⟩,λ_ _ _ h=>h,λ_ _ a b=>Pd a b,λ_ _ h=>.inl h⟩
     have ho:Pa s'.bs s.bs.length g' (g'.cut s.bs.length none) w':=Ib Gp hk.mono λid b o h1 h2=>Or.inr ⟨id,h1,AD,h2⟩
     grind[Im]
    grind[Wh]
   grind
end Go.Tel
