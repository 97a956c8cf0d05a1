/-
  Returns, part 1: what a value is for one who keeps only the first blocks and tokens.
-/
import Derived.Test.YtpgfpakdnijngaaGreatDoorEvG
set_option linter.all false
namespace Go.Tel
structure Gs (n m:Nat) (g' g'':AI):Prop where
 blk:∀id b,id<n->g'.blk id=some b->g''.blk id=some b
 dead:∀id,id<n->g'.dead id->g''.dead id
 tok:∀t l,t<m->g'.tok t=some l->g''.tok t=some l
 mp:∀id b,id<n->g'.mp id=some b->g''.mp id=some b
 mono:∀b o,g'.I b o->g''.I b o
def OU (bs:List (List AV)) (n:Nat) (g' g'':AI) (w:World):Prop:=
 ∀id off len sz rows v,n<=id->V g' w (.ref id off len sz) v->Me bs id off len sz=some rows->VP g''.I w (.list rows) v
theorem OU.nil {n:Nat} {g' g'':AI} {w:World}:OU [] n g' g'' w:=λ_ _ _ _ _ _ _ _ h=>by grind[Me]
theorem J1 {E:Env} {g' g'':AI} {w:World} {s:AM} {n:Nat} (hI:Inv E g' w s) (hmono:∀b o,g'.I b o->g''.I b o) (ADg:∀id b o,n<=id->g'.blk id=some b->g''.I b o):OU s.bs n g' g'' w:=by
 intro id off len sz rows v hn hv h;unfold Me at h;split at h
 .rename_i cs hcs
  split at h
  .rename_i hc
   split at h
   .rename_i ps hps
    simp at h; subst h;cases hv with
    | Il hd=>
     have:=hI.DW id hd
     grind
    | @ref _ _ _ _ b cap nn e H6 hcap hs qW=>
     obtain⟨cs',vs,e',k1,k2,kle,k3⟩:=hI.blk id b H6;rw[hcs] at k1; simp at k1; subst k1;have hvl:=(k3.drop off).take (len*sz);obtain⟨q1,q2⟩:=Gm hvl hps;have qU:(((vs.take cs.length).drop off).take (len*sz)).length=len*sz:=by grind
     have hfl:Flat g'.I w (CD sz len ps) sz (((vs.take cs.length).drop off).take (len*sz)):=Hz qU q1 q2;have AT5:Flat g''.I w (CD sz len ps) sz (((vs.take cs.length).drop off).take (len*sz)):=hfl.mono hmono (λ_ _ _=>rfl);have hra:=AT5.eO (b:=b) (o:=off) (λq _=>ADg id b _ hn H6) (λq u hq=>by grind[Bg])
     grind[VP.Ik,FE]
   grind
  grind
 grind
mutual
theorem H7 {g' g'':AI} {w:World} {bs:List (List AV)} {n m:Nat} (hI:OU bs n g' g'' w) (hk:Gs n m g' g''):∀(x y:AV) (v:Value),close bs n m x=some y->V g' w x v->V g'' w y v
 | .pv p,y,v,h,hv=>by
  simp[close] at h; subst h;cases hv with|pv hv=>exact .pv (hv.mono hk.mono λ_ _ _=>rfl)
 | .ptr id off,y,v,h,hv=>by
  simp only[close] at h;split at h
  .rename_i hid
   simp at h; subst h;cases hv with
   | ptr hb=>exact .ptr (hk.blk _ _ hid hb)
   | KM hd=>exact .KM (hk.dead _ hid hd)
  grind
 | .DM gl off,y,v,h,hv=>by
  simp[close] at h; subst h;cases hv with|DM=>exact .DM _ _
 | .C8 row off,y,v,h,hv=>by
  simp[close] at h; subst h;cases hv with
  | C8 _ f hr=>exact .C8 _ f λj c hj=>⟨hk.mono _ _ (hr j c hj).1,(hr j c hj).2.1,(hr j c hj).2.2.mono hk.mono λ_ _ _=>rfl⟩
 | .AB rows,y,v,h,hv=>by
  simp[close] at h; subst h;cases hv with|AB hr=>exact .AB (hr.mono hk.mono λ_ _ _=>rfl)
 | .own t rows,y,v,h,hv=>by
  simp only[close] at h;split at h
  .rename_i ht
   simp at h; subst h;cases hv with|own hr hcap VZ hn hf=>exact .own (hr.mono hk.mono λ_ _ _=>rfl) hcap (hk.tok _ _ ht VZ) hn hf
  .simp at h; subst h
   cases hv with|own hr hcap VZ hn hf=>exact .pv (VP.Ik (hr.mono hk.mono λ_ _ _=>rfl) hcap)
 | .ref id off len sz,y,v,h,hv=>by
  simp only[close] at h;split at h
  .rename_i hid
   simp at h; subst h;cases hv with
   | ref hb hcap hs hn=>exact .ref (hk.blk _ _ hid hb) hcap hs hn
   | Il hd=>exact .Il (hk.dead _ hid hd)
  .rename_i hid
   split at h
   .rename_i rows hr
    simp at h; subst h;exact .pv (hI _ _ _ _ _ _ (by omega) hv hr)
   grind
 | .func fn a b,y,v,h,hv=>by
  simp only[close] at h;split at h
  .rename_i a' b' ha hb
   simp at h; subst h;obtain⟨vs,us,rfl,h1,h2⟩:=hv.SZ;have k1:=F4 hI hk a a' vs ha h1;have k2:=F4 hI hk b b' us hb h2;exact .func k1.len k2.len k1.at_ k2.at_
  grind
 | .iface t x,y,v,h,hv=>by
  simp only[close] at h;split at h
  .rename_i x' hx
   simp at h; subst h;cases hv with|iface hv=>exact .iface (H7 hI hk x x' _ hx hv)
  grind
 | .agg cs,y,v,h,hv=>by
  simp only[close] at h;split at h
  .rename_i cs' hx
   simp at h; subst h;obtain⟨vs,rfl,h1⟩:=hv.Xj;exact V.sL (F4 hI hk cs cs' vs hx h1)
  grind
 | .tuple cs,y,v,h,hv=>by
  simp only[close] at h;split at h
  .rename_i cs' hx
   simp at h; subst h;obtain⟨vs,rfl,h1⟩:=hv.Pa;exact V.tuple' (F4 hI hk cs cs' vs hx h1)
  grind
 | .Gz,y,v,h,hv=>by
  simp[close] at h; subst h;cases hv with|Gz=>exact .Gz
 | .G9 id,y,v,h,hv=>by
  simp only[close] at h;split at h
  .rename_i hid
   simp at h; subst h;cases hv with|G9 hb=>exact .G9 (hk.mp _ _ hid hb)
  grind
 | .OI _ _,y,v,h,hv=>by grind[close]
 | .bz id t k,y,v,h,hv=>by
  simp only[close] at h;split at h
  .rename_i hid
   simp at h; subst h;cases hv with
   | bz hb hs=>exact .bz (hk.blk _ _ hid hb) hs
   | qR hd=>exact .qR (hk.dead _ hid hd)
  grind
theorem F4 {g' g'':AI} {w:World} {bs:List (List AV)} {n m:Nat} (hI:OU bs n g' g'' w) (hk:Gs n m g' g''):∀(xs ys:List AV) (vs:List Value),AU bs n m xs=some ys->VL g' w xs vs->VL g'' w ys vs
 | [],ys,vs,h,hv=>by
  simp[AU] at h; subst h;rw[hv.E4];exact .nil
 | x::xs,ys,vs,h,hv=>by
  simp only[AU] at h;split at h
  .rename_i c cs hc hcs
   simp at h; subst h;obtain⟨u,us,rfl,h1,h2⟩:=hv.cases;exact .cons (H7 hI hk x c u hc h1) (F4 hI hk xs cs us hcs h2)
  grind
end
mutual
theorem Sl (n m:Nat):∀x:AV,Ep x=true->close [] n m x=some x
 | .pv _,_=>by rfl
 | .ptr _ _,h=>by grind[Ep]
 | .DM _ _,_=>by rfl
 | .C8 _ _,_=>by rfl
 | .AB _,_=>by rfl
 | .own _ _,h=>by grind[Ep]
 | .ref _ _ _ _,h=>by grind[Ep]
 | .func _ a b,h=>by
  simp only[Ep,AD] at h;simp[close,Gt n m a h.1,Gt n m b h.2]
 | .iface _ x,h=>by
  simp only[Ep] at h;simp[close,Sl n m x h]
 | .agg cs,h=>by
  simp only[Ep] at h;simp[close,Gt n m cs h]
 | .tuple cs,h=>by
  simp only[Ep] at h;simp[close,Gt n m cs h]
 | .Gz,_=>by rfl
 | .G9 _,h=>by grind[Ep]
 | .OI _ _,h=>by grind[Ep]
 | .bz _ _ _,h=>by grind[Ep]
theorem Gt (n m:Nat):∀xs:List AV,Bb xs=true->AU [] n m xs=some xs
 | [],_=>by rfl
 | x::xs,h=>by
  simp only[Bb,AD] at h;simp[AU,Sl n m x h.1,Gt n m xs h.2]
end
theorem JK {n:Nat}:∀{cs:List AV} {i:Nat} {c:AV},Ab n cs=true->cs[i]?=some c->Ai n c=true
 | [],_,_,_,h=>by grind
 | x::xs,0,c,h,hc=>by grind[Ab]
 | x::xs,i+1,c,h,hc=>by
  simp only[Ab,AD] at h;exact JK h.2 (by assumption)
structure Pn (n:Nat) (g' g'':AI):Prop where
 blk:∀id b,id<n->g'.blk id=some b->g''.blk id=some b
 dead:∀id,id<n->g'.dead id->g''.dead id
 tok:∀t l,g'.tok t=some l->g''.tok t=some l
 mp:∀id b,id<n->g'.mp id=some b->g''.mp id=some b
 mono:∀b o,g'.I b o->g''.I b o
theorem V.keep {n:Nat} {g' g'':AI} {w:World} (hk:Pn n g' g'') {x:AV} {v:Value} (h:V g' w x v) (hn:Ai n x=true):V g'' w x v:=by
 induction h with
 | pv h=>exact .pv (h.mono hk.mono λ_ _ _=>rfl)
 | ptr h=>exact .ptr (hk.blk _ _ (by simp_all[Ai]) h)
 | KM h=>exact .KM (hk.dead _ (by simp_all[Ai]) h)
 | DM gl off=>grind[DM]
 | C8 off f h=>exact .C8 off f λj c hj=>⟨hk.mono _ _ (h j c hj).1,(h j c hj).2.1,(h j c hj).2.2.mono hk.mono λ_ _ _=>rfl⟩
 | AB h=>exact .AB (h.mono hk.mono λ_ _ _=>rfl)
 | own h hcap ht hn' hf=>exact .own (h.mono hk.mono λ_ _ _=>rfl) hcap (hk.tok _ _ ht) hn' hf
 | ref h hcap hs hn'=>exact .ref (hk.blk _ _ (by simp_all[Ai]) h) hcap hs hn'
 | Il h=>exact .Il (hk.dead _ (by simp_all[Ai]) h)
 | Gz=>exact .Gz
 | G9 h=>exact .G9 (hk.mp _ _ (by simp_all[Ai]) h)
 | bz h hs=>exact .bz (hk.blk _ _ (by simp_all[Ai]) h) hs
 | qR h=>exact .qR (hk.dead _ (by simp_all[Ai]) h)
 | func hl hm _ _ ih ik=>
  grind[Ai,func,JK]
 | iface _ ih=>grind[iface,Ai]
 | agg hl _ ih=>grind[agg,JK,Ai]
 | tuple hl _ ih=>grind[tuple,JK,Ai]
theorem VL.keep {n:Nat} {g' g'':AI} {w:World} (hk:Pn n g' g'') {xs:List AV} {vs:List Value} (h:VL g' w xs vs) (hn:Ab n xs=true):VL g'' w xs vs:=
 ⟨h.len,λi c v h1 h2=>(h.at_ i c v h1 h2).keep hk (JK hn h1)⟩
def AI.Lz (g:AI) (I:Nat->Nat->Prop):AI:={ g with I:=I }
theorem Zt {E:Env} {L:A3} {g:AI} {w w':World} {s:AM} {I:Nat->Nat->Prop} (hI:Inv E g w s) (os:w'.os=w.os) (tape:w'.tape=w.tape) (output:w'.output=w.output) (size:w.heap.size<=w'.heap.size)
  (mono:∀b o,g.I b o->I b o) (keep:∀b,b<w.heap.size->w'.heap[b]?=w.heap[b]?/\∀o,I b o->g.I b o) (JF:∀b o,I b o->b<w'.heap.size)
  (E9:∀gl row,E.G gl=some row->∀j c,row[j]?=some c->∃v,I gl j/\w'.cell? ⟨gl,j,none⟩=some v/\VP I w' c v) (DK:∀gl row,E.G gl=some row->I gl row.length/\w'.cell? ⟨gl,row.length,none⟩=none) :
  Ext L g w (g.Lz I) w'/\Inv E (g.Lz I) w' s:=by
 have ext:Ext L g w (g.Lz I) w':={
  os:=os,tape:=tape,output:=output,size:=size,mono:=mono
  cell:=λb o hi=>B8 (keep b (hI.JF b o hi)).1 o
  blk:=λ_ _ hb=>.inl hb
  dead:=λ_ hd=>hd
  shape:=λ_ b hb _=>Da (keep b (hI.Dt hb)).1
  tok:=λ_ l hl=>⟨l,hl,.inl rfl⟩
  Fa:=λ_ b hb _=>⟨hb,(keep b (hI.Dt hb)).1⟩
  FQ:=λ_ l hl _=>⟨hl,(keep l.b (hI.Fc hl)).1,(keep l.b (hI.Fc hl)).2⟩
  out:=λb hb _ _ _=>keep b hb
  mp:=λ_ _ hb=>hb
  FR:=λ_ b hb=>⟨λ_=>(keep b (hI.K0 hb)).1,(keep b (hI.K0 hb)).2⟩
  Jw:=λid _ hb _=>⟨id,hb⟩
  G0:=λid _ hb _=>⟨id,hb⟩
  Jy:=λ_ l hl _=>⟨l,hl,rfl⟩
  C5:=λ_ hp=>hp }
 refine⟨ext,?_⟩
 exact {
  Ed:=hI.Ed,Db:=hI.Db,DW:=hI.DW,Dh:=hI.Dh,EE:=hI.EE,Gc:=hI.Gc,Gd:=hI.Gd,Ee:=hI.Ee,GG:=hI.GG,C6:=hI.C6,JF:=JF,E9:=E9,DK:=DK,Lc:=hI.Lc,HK:=hI.HK
  mp:=hI.HV (λ_ _ _=>rfl) (λ_ b hb=>(keep b (hI.K0 hb)).1)
  blk:=λid b hb=>by
   obtain⟨cs,vs,e,h1,h2,h3,h4⟩:=hI.blk id b hb;exact⟨cs,vs,e,h1,(keep b (hI.Dt hb)).1.trans h2,h3,h4.mono ext⟩
  Fb:=λid b o hb hi=>hI.Fb id b o hb ((keep b (hI.Dt hb)).2 o hi)
  tok:=λt l hl=>by
   obtain⟨vs,e,h1,h2⟩:=hI.tok t l hl
   grind
  G1:=λt l o hl hle hi=>hI.G1 t l o hl hle ((keep l.b (hI.Fc hl)).2 o hi) }
def AI.Jp (g:AI) (n:Nat) (b o:Nat):Prop:=g.I b o\/∃id,n<=id/\g.blk id=some b
theorem Sm {E:Env} {g':AI} {w':World} {s':AM} {I:Nat->Nat->Prop} (hI:Inv E g' w' s') (hm:∀b o,g'.I b o->I b o) :
  ∀gl row,E.G gl=some row->∀j c,row[j]?=some c->∃v,I gl j/\w'.cell? ⟨gl,j,none⟩=some v/\VP I w' c v:=λgl row hr j c hj=>by
 obtain⟨v,h1,h2,h3⟩:=hI.E9 gl row hr j c hj;exact⟨v,hm _ _ h1,h2,h3.mono hm λ_ _ _=>rfl⟩
theorem Po {E:Env} {g':AI} {w':World} {s':AM} {I:Nat->Nat->Prop} (hI:Inv E g' w' s') (hm:∀b o,g'.I b o->I b o) :
  ∀gl row,E.G gl=some row->I gl row.length/\w'.cell? ⟨gl,row.length,none⟩=none:=λgl row hr=>⟨hm _ _ (hI.DK gl row hr).1,(hI.DK gl row hr).2⟩
theorem ABb {E:Env} {L:A3} {g g':AI} {w w':World} {s s':AM} (hI:Inv E g w s) (hx:Ext L g w g' w') (GK:Inv E g' w' s') {id b:Nat} (hid:id<s.bs.length) (hb:g'.blk id=some b):∃b0,g.blk id=some b0/\b0=b:=by
 rcases hI.EE id hid with ⟨b0,h0⟩|hd|hp|⟨b0,hm⟩
 .rcases hx.blk id b0 h0 with k|k
  .grind
  .rw[g'.hd id k] at hb; grind
 .rw[g'.hd id (hx.dead id hd)] at hb; grind
 .rw[(GK.Dh id (hx.C5 id hp)).2.1] at hb; grind
 .rw[(GK.Lc id b0 (hx.mp id b0 hm)).1] at hb; grind
theorem AHo {E:Env} {L:A3} {g g':AI} {w w':World} {s s':AM} (hI:Inv E g w s) (hx:Ext L g w g' w') (GK:Inv E g' w' s') {id:Nat} (hid:id<s.bs.length):id<s'.bs.length:=by
 rcases hI.EE id hid with ⟨b0,h0⟩|hd|hp|⟨b0,hm⟩
 .rcases hx.blk id b0 h0 with k|k
  .exact GK.Ed id b0 k
  .exact GK.Db id k
 .exact GK.Db id (hx.dead id hd)
 .exact(GK.Dh id (hx.C5 id hp)).1
 .exact GK.mpN (hx.mp id b0 hm)
theorem AHp {E:Env} {L:A3} {g g':AI} {w w':World} {s s':AM} (hI:Inv E g w s) (hx:Ext L g w g' w') (GK:Inv E g' w' s') {id b:Nat} (hid:id<s.bs.length) (hb:g'.mp id=some b):g.mp id=some b:=by
 obtain⟨x1,x2,x3⟩:=GK.Lc id b hb;rcases hI.EE id hid with ⟨b0,h0⟩|hd|hp|⟨b0,hm⟩
 .rcases hx.blk id b0 h0 with k|k
  all_goals grind
 .exact absurd (hx.dead id hd) x2
 .exact absurd (hx.C5 id hp) x3
 .rw[hx.mp id b0 hm] at hb
  grind
theorem AHq {E:Env} {L L':A3} {g g':AI} {w w':World} {s s':AM} (hI:Inv E g w s) (hro:L'.ro=s.bs.length) (GZ:L'.rt=s.ts.length) (hx:Ext L' g w g' w') (GK:Inv E g' w' s') :
  Ext L g w (g.Lz (g'.Jp s.bs.length)) w'/\Inv E (g.Lz (g'.Jp s.bs.length)) w' s/\Gs s.bs.length s.ts.length g' (g.Lz (g'.Jp s.bs.length))/\OU s'.bs s.bs.length g' (g.Lz (g'.Jp s.bs.length)) w':=by
 have hkb:∀id b,g.blk id=some b->g'.blk id=some b/\w'.heap[b]?=w.heap[b]?:=λid b hb=>hx.Fa id b hb (by rw[hro]; exact hI.Ed id b hb)
 have hkt:∀t l,g.tok t=some l->g'.tok t=some l/\w'.heap[l.b]?=w.heap[l.b]?/\∀o,g'.I l.b o->g.I l.b o:=λt l hl=>hx.FQ t l hl (by
  have:=hI.Gd t l hl
  grind)
 have hmono:∀b o,g'.I b o->g'.Jp s.bs.length b o:=λ_ _ h=>.inl h
 have keep:∀b,b<w.heap.size->w'.heap[b]?=w.heap[b]?/\∀o,g'.Jp s.bs.length b o->g.I b o:=λb hb=>by
  by_cases h1:∃id,g.blk id=some b
  .obtain⟨id,h1⟩:=h1
   obtain⟨a1,a2⟩:=hkb id b h1;refine⟨a2,λo ho=>?_⟩;rcases ho with ho|⟨id',h2,h3⟩
   .exact absurd ho (GK.Fb id b o a1)
   .have:=GK.Ee id id' b a1 h3
    have:=hI.Ed id b h1;omega
  .have eC:∀id,g.blk id≠some b:=λid e=>h1 ⟨id,e⟩
   have hno:∀id',g'.blk id'≠some b:=λid' h3=>by
    obtain⟨E3,h4⟩:=hx.G0 id' b h3 hb
    grind
   by_cases hm:∃id,g.mp id=some b
   .obtain⟨id,hm⟩:=hm
    obtain⟨a1,a2⟩:=hx.FR id b hm;refine⟨a1 (by rw[hro]; exact hI.mpN hm),λo ho=>?_⟩;rcases ho with ho|⟨id',_,h3⟩
    all_goals grind
   have hm':∀id,g.mp id≠some b:=λid e=>hm ⟨id,e⟩
   by_cases h2:∃t l,g.tok t=some l/\l.b=b
   .obtain⟨t,l,h2,rfl⟩:=h2
    obtain⟨_,a2,a3⟩:=hkt t l h2;refine⟨a2,λo ho=>?_⟩;rcases ho with ho|⟨id',_,h3⟩
    all_goals grind
   .obtain⟨a1,a2⟩:=hx.out b hb eC (λt l hl e=>h2 ⟨t,l,hl,e⟩) hm'
    refine⟨a1,λo ho=>?_⟩;rcases ho with ho|⟨id',_,h3⟩
    all_goals grind
 have AHr:∀b o,g'.Jp s.bs.length b o->b<w'.heap.size:=λb o ho=>by
  rcases ho with ho|⟨id',_,h3⟩
  .exact GK.JF b o ho
  .exact GK.Dt h3
 obtain⟨r1,r2⟩:=Zt (L:=L) hI hx.os hx.tape hx.output hx.size (λb o h=>hmono b o (hx.mono b o h)) keep AHr (Sm GK hmono) (Po GK hmono);refine⟨r1,r2,⟨λid b hid hb=>?_,λid hid hd=>?_,λt l ht hl=>?_,λid b hid hb=>AHp hI hx GK hid hb,hmono⟩,J1 GK hmono λid b o hid hb=>.inr ⟨id,hid,hb⟩⟩
 .obtain⟨b0,h0,rfl⟩:=ABb hI hx GK hid hb
  exact h0
 .rcases hI.EE id hid with ⟨b0,h0⟩|hd' | hp|⟨b0,hm⟩
  .have:=(hkb id b0 h0).1
   rw[g'.hd id hd] at this; grind
  .exact hd'
  .exact absurd hd (GK.Dh id (hx.C5 id hp)).2.2
  .exact absurd hd (GK.Lc id b0 (hx.mp id b0 hm)).2.1
 .have hs:s.ts[t]?=some (s.ts[t].1,s.ts[t].2):=by grind
  obtain⟨l0,h0,_⟩:=hI.Gc t _ _ hs;have:=(hkt t l0 h0).1;rw[hl] at this; simp at this; subst this;exact h0
def AI.bare (I:Nat->Nat->Prop):AI:=⟨λ_=>none,λ_=>False,λ_=>False,λ_=>none,λ_=>none,I,λ_ h=>h.elim⟩
theorem Inv.bare {E:Env} {g:AI} {w:World} {s:AM} (h:Inv E g w s):Inv E (AI.bare g.I) w ⟨[],[]⟩ where
 Ed:=λ_ _ h=>by grind[AI.bare]
 Db:=λ_ h=>by grind[AI.bare]
 blk:=λ_ _ h=>by grind[AI.bare]
 Fb:=λ_ _ _ h=>by grind[AI.bare]
 DW:=λ_ h=>by grind[AI.bare]
 Dh:=λ_ h=>by grind[AI.bare]
 EE:=λ_ h=>by grind
 mp:=λ_ _ h=>by grind[AI.bare]
 Lc:=λ_ _ h=>by grind[AI.bare]
 HK:=λ_ _ _ h=>by grind[AI.bare]
 Gc:=λ_ _ _ h=>by grind
 Gd:=λ_ _ h=>by grind[AI.bare]
 tok:=λ_ _ h=>by grind[AI.bare]
 G1:=λ_ _ _ h=>by grind[AI.bare]
 Ee:=λ_ _ _ h=>by grind[AI.bare]
 GG:=λ_ _ _ _ h=>by grind[AI.bare]
 C6:=λ_ _ _ _ h=>by grind[AI.bare]
 JF:=h.JF
 E9:=h.E9
 DK:=h.DK
theorem Gs.bare {g:AI}:Gs 0 0 g (AI.bare g.I):=⟨λ_ _ h=>absurd h (GV _),λ_ h=>absurd h (GV _),λ_ _ h=>absurd h (GV _),λ_ _ h=>absurd h (GV _),λ_ _ h=>h⟩
theorem tH {E:Env} {L L':A3} {g g':AI} {w w':World} {s s':AM} (hI:Inv E g w s) (hx:Ext L' (AI.bare g.I) w g' w') (GK:Inv E g' w' s') :
  Ext L g w (g.Lz (g'.Jp 0)) w'/\Inv E (g.Lz (g'.Jp 0)) w' s/\Gs 0 0 g' (g.Lz (g'.Jp 0))/\OU s'.bs 0 g' (g.Lz (g'.Jp 0)) w':=by
 have hmono:∀b o,g'.I b o->g'.Jp 0 b o:=λ_ _ h=>.inl h
 have keep:∀b,b<w.heap.size->w'.heap[b]?=w.heap[b]?/\∀o,g'.Jp 0 b o->g.I b o:=λb hb=>by
  obtain⟨a1,a2⟩:=hx.out b hb (λ_ e=>by grind[AI.bare]) (λ_ _ e=>by grind[AI.bare]) (λ_ e=>by grind[AI.bare]);refine⟨a1,λo ho=>?_⟩;rcases ho with ho|⟨id',_,h3⟩
  .exact a2 o ho
  .obtain⟨E3,h4⟩:=hx.G0 id' b h3 hb
   grind[AI.bare]
 have AHr:∀b o,g'.Jp 0 b o->b<w'.heap.size:=λb o ho=>by
  rcases ho with ho|⟨id',_,h3⟩
  .exact GK.JF b o ho
  .exact GK.Dt h3
 obtain⟨r1,r2⟩:=Zt (L:=L) hI hx.os hx.tape hx.output hx.size (λb o h=>hmono b o (hx.mono b o h)) keep AHr (Sm GK hmono) (Po GK hmono);exact⟨r1,r2,⟨λ_ _ h=>absurd h (GV _),λ_ h=>absurd h (GV _),λ_ _ h=>absurd h (GV _),λ_ _ h=>absurd h (GV _),hmono⟩,J1 GK hmono λid b o hid hb=>.inr ⟨id,hid,hb⟩⟩
def AI.cut (g:AI) (n:Nat) (r:Option Nat):AI where
 blk id:=if id<n then g.blk id else if id=n then r.bind g.blk else none
 dead id:=id<n/\g.dead id
 C5 id:=id<n/\g.C5 id
 tok:=g.tok
 mp id:=if id<n then g.mp id else none
 I b o:=g.I b o\/∃id,n<=id/\r≠some id/\g.blk id=some b
 hd id h:=by simp[h.1,g.hd id h.2]
theorem Iq {g:AI} {n:Nat} {r:Option Nat} {id b:Nat} (h:(g.cut n r).blk id=some b):(id<n/\g.blk id=some b)\/(id=n/\∃E3,r=some E3/\g.blk E3=some b):=by
 simp only[AI.cut] at h;split at h
 .grind
 .split at h
  .rename_i hid
   cases r with
   | none=>grind
   | some E3=>grind
  grind
theorem OV {g:AI} {n:Nat} {r:Option Nat} {id b:Nat} (hid:id<n) (h:g.blk id=some b):(g.cut n r).blk id=some b:=by grind[AI.cut]
theorem Sn {g:AI} {n:Nat} {r:Option Nat} {id b:Nat} (h:(g.cut n r).mp id=some b):id<n/\g.mp id=some b:=by grind[AI.cut]
theorem OW {g:AI} {n:Nat} {r:Option Nat} {id b:Nat} (hid:id<n) (h:g.mp id=some b):(g.cut n r).mp id=some b:=by grind[AI.cut]
theorem Pn.cut {g:AI} {n:Nat} {r:Option Nat}:Pn n g (g.cut n r):=
 ⟨λ_ _ hid hb=>OV hid hb,λ_ hid hd=>⟨hid,hd⟩,λ_ _ h=>h,λ_ _ hid hb=>OW hid hb,λ_ _ h=>.inl h⟩
def Uv (s:AM) (n:Nat) (r:Option Nat):AM:=⟨s.bs.take n++(match r with|none=>[]|some id=>(s.bs[id]?).toList),s.ts⟩
theorem tI {E:Env} {L L':A3} {g g':AI} {w w':World} {s s':AM} {r:Option Nat} (hI:Inv E g w s) (hro:L'.ro=L.ro) (GZ:L'.rt=L.rt) (hx:Ext L' g w g' w') (GK:Inv E g' w' s')
  (fD:(s'.bs.take s.bs.length).all (Ab s.bs.length)=true)
  (hr:∀id,r=some id->s.bs.length<=id/\(∃b,g'.blk id=some b)/\∀cs,s'.bs[id]?=some cs->Ab s.bs.length cs=true) :
  Ext L g w (g'.cut s.bs.length r) w'/\Inv E (g'.cut s.bs.length r) w' (Uv s' s.bs.length r):=by
 have hle:s.bs.length<=s'.bs.length:=by
  rcases FK 0 s.bs.length with k|k
  .have:=AHo hI hx GK (id:=s.bs.length-1) (by omega); omega
  omega
 have tJ:(s'.bs.take s.bs.length).length=s.bs.length:=by grind
 have hbN:∀id b,g.blk id=some b->id<s.bs.length:=hI.Ed
 have hno:∀b o,(∀id,g'.blk id=some b->id<s.bs.length)->(g'.cut s.bs.length r).I b o->g'.I b o:=λb o h hi=>by
  rcases hi with hi|⟨id,h1,_,h3⟩
  all_goals grind
 have get:∀id,id<s.bs.length->(Uv s' s.bs.length r).bs[id]?=s'.bs[id]?:=λid hid=>by simp[*,Uv,Cf]
 have ids:∀id cs,id<s.bs.length->s'.bs[id]?=some cs->Ab s.bs.length cs=true:=λid cs hid hcs=>by
  rw[De] at fD;refine fD cs (BA (i:=id) ?_)
  grind
 have ext:Ext L g w (g'.cut s.bs.length r) w':={
  os:=hx.os,tape:=hx.tape,output:=hx.output,size:=hx.size
  mono:=λb o hi=>.inl (hx.mono b o hi)
  cell:=hx.cell
  blk:=λid b hb=>by
   rcases hx.blk id b hb with k|k
   .grind[OV]
   .exact .inr ⟨hbN id b hb,k⟩
  dead:=λid hd=>⟨hI.Db id hd,hx.dead id hd⟩
  shape:=λid b hb hb'=>by
   rcases Iq hb' with ⟨_,k⟩|⟨k,_⟩
   .exact hx.shape id b hb k
   grind
  tok:=hx.tok
  Fa:=λid b hb hlt=>by
   obtain⟨a1,a2⟩:=hx.Fa id b hb (by omega)
   grind[OV]
  FQ:=λt l hl hlt=>by
   obtain⟨a1,a2,a3⟩:=hx.FQ t l hl (by omega);refine⟨a1,a2,λo ho=>a3 o ?_⟩;rcases ho with ho|⟨id,_,_,h3⟩
   .omega
   .exact absurd rfl (GK.C6 id l.b t l h3 a1)
  mp:=λid b hb=>OW (hI.mpN hb) (hx.mp id b hb)
  FR:=λid b hb=>by
   obtain⟨a1,a2⟩:=hx.FR id b hb;refine⟨λhlt=>a1 (by omega),λo ho=>a2 o ?_⟩;rcases ho with ho|⟨id',_,_,h3⟩
   .omega
   .exact absurd h3 (GK.mpB (hx.mp id b hb))
  Jw:=λid b hb hlt=>hx.Jw id b (Sn hb).2 hlt
  out:=λb hb h1 h2 h3=>by
   obtain⟨a1,a2⟩:=hx.out b hb h1 h2 h3;refine⟨a1,λo ho=>a2 o ?_⟩;rcases ho with ho|⟨id,_,_,h3⟩
   .omega
   .obtain⟨E3,h4⟩:=hx.G0 id b h3 hb
    grind
  G0:=λid b hb hlt=>by
   rcases Iq hb with ⟨_,k⟩|⟨_,E3,_,k⟩
   .exact hx.G0 id b k hlt
   .exact hx.G0 E3 b k hlt
  Jy:=hx.Jy
  C5:=λid hp=>⟨(hI.Dh id hp).1,hx.C5 id hp⟩ }
 have ADh:∀E3,r=some E3->∃cs,s'.bs[E3]?=some cs/\(Uv s' s.bs.length r).bs[s.bs.length]?=some cs/\(Uv s' s.bs.length r).bs.length=s.bs.length+1:=λE3 e=>by
  obtain⟨_,⟨b,hb⟩,_⟩:=hr E3 e;have hlt:=GK.Ed E3 b hb;simp[*,Uv]
 have hlen:s.bs.length<=(Uv s' s.bs.length r).bs.length:=by grind
 refine⟨ext,?_⟩
 exact {
  Ed:=λid b hb=>by
   rcases Iq hb with ⟨k,_⟩|⟨rfl,E3,e,_⟩
   all_goals grind
  Db:=λid hd=>by have:=hd.1; omega
  blk:=λid b hb=>by
   rcases Iq hb with ⟨k,hb⟩|⟨rfl,E3,e,hb⟩
   .obtain⟨cs,vs,e,h1,h2,h3,h4⟩:=GK.blk id b hb
    exact⟨cs,vs,e,(get id k).trans h1,h2,h3,h4.keep Pn.cut (ids id cs k h1)⟩
   .obtain⟨cs,vs,e',h1,h2,h3,h4⟩:=GK.blk E3 b hb
    obtain⟨cs',k1,k2,_⟩:=ADh E3 e;rw[h1] at k1; simp at k1; subst k1;exact⟨cs,vs,e',k2,h2,h3,h4.keep Pn.cut ((hr E3 e).2.2 cs h1)⟩
  Fb:=λid b o hb hi=>by
   rcases Iq hb with ⟨k,hb⟩|⟨rfl,E3,e,hb⟩
   .rcases hi with hi|⟨id',h1,_,h3⟩
    .exact GK.Fb id b o hb hi
    .have:=GK.Ee id id' b hb h3; omega
   .rcases hi with hi|⟨id',h1,h2,h3⟩
    .exact GK.Fb E3 b o hb hi
    .have:=GK.Ee E3 id' b hb h3
     grind
  DW:=λid hd=>(get id hd.1).trans (GK.DW id hd.2)
  Dh:=λid hp=>by
   obtain⟨a,b,c⟩:=GK.Dh id hp.2
   grind[AI.cut]
  EE:=λid hid=>by
   by_cases k:id<s.bs.length
   .rcases GK.EE id (by omega) with ⟨b,hb⟩|hd|hp|⟨b,hm⟩
    .grind[OV]
    .exact .inr (.inl ⟨k,hd⟩)
    .exact .inr (.inr (.inl ⟨k,hp⟩))
    grind[OW]
   .cases e:r with
    | none=>
     grind[Uv]
    | some E3=>
     obtain⟨_,_,_,h3⟩:=ADh E3 e;rw[h3] at hid;have:id=s.bs.length:=by omega
     simp[*,AI.cut]
  mp:=λid b hb=>by
   obtain⟨k,hm⟩:=Sn hb;obtain⟨es,c,h1,h2⟩:=GK.mp id b hm
   grind
  Lc:=λid b hb=>by
   obtain⟨k,hm⟩:=Sn hb;obtain⟨a1,a2,a3⟩:=GK.Lc id b hm
   grind[AI.cut]
  HK:=λid id' b hb hb'=>GK.HK id id' b (Sn hb).2 (Sn hb').2
  Gc:=GK.Gc
  Gd:=GK.Gd
  tok:=GK.tok
  G1:=λt l o hl hle hi=>by
   rcases hi with hi|⟨id',_,_,h3⟩
   .exact GK.G1 t l o hl hle hi
   .exact absurd rfl (GK.C6 id' l.b t l h3 hl)
  Ee:=λid id' b hb hb'=>by
   rcases Iq hb with ⟨k,hb⟩|⟨rfl,E3,e,hb⟩
   .rcases Iq hb' with ⟨k',hb'⟩|⟨rfl,E3,e,hb'⟩
    .exact GK.Ee id id' b hb hb'
    .have:=GK.Ee id E3 b hb hb'
     grind
   .rcases Iq hb' with ⟨k',hb'⟩|⟨rfl,_⟩
    .have:=GK.Ee id' E3 b hb' hb
     grind
    rfl
  GG:=GK.GG
  C6:=λid b t l hb hl=>by
   rcases Iq hb with ⟨_,hb⟩|⟨_,E3,_,hb⟩
   .exact GK.C6 id b t l hb hl
   .exact GK.C6 E3 b t l hb hl
  JF:=λb o hi=>by
   rcases hi with hi|⟨id,_,_,h3⟩
   .exact GK.JF b o hi
   .exact GK.Dt h3
  E9:=Sm GK λ_ _ h=>.inl h
  DK:=Po GK λ_ _ h=>.inl h }
theorem Zu {E:Env} {L L':A3} {g g':AI} {w w':World} {s s' s'':AM} {r:Bool} {v x:AV} {u:Value} (hI:Inv E g w s) (hro:L'.ro=L.ro) (GZ:L'.rt=L.rt) (hx:Ext L' g w g' w') (GK:Inv E g' w' s')
  (hv:V g' w' x u) (h:M8 r s.bs.length x s'=some (v,s'')):∃g'',V g'' w' v u/\Ext L g w g'' w'/\Inv E g'' w' s'':=by
 unfold M8 at h;cases fD:(s'.bs.take s.bs.length).all (Ab s.bs.length) with
 | false=>grind
 | true=>
  rw[fD] at h;simp only[AH] at h;split at h
  .rename_i id off len sz hnr
   unfold SK at hnr;split at hnr
   .rename_i id' off' len' sz'
    cases hc:(r&&Nat.ble s.bs.length id') with
    | false=>grind
    | true=>
     rw[hc] at hnr;simp at hnr;obtain⟨rfl,rfl,rfl,rfl⟩:=hnr;simp at hc;split at h
     .rename_i c cs hcs
      cases hl:Ab s.bs.length (c::cs) with
      | false=>grind
      | true=>
       rw[hl] at h;simp only[AH,Aw,A4] at h;obtain⟨rfl,rfl⟩:=h;cases hv with
       | Il hd=>have:=GK.DW _ hd; grind
       | @ref _ _ _ _ b cap n e H6 hcap hs hn=>
        obtain⟨r1,r2⟩:=tI (L:=L) (r:=some id') hI hro GZ hx GK fD (λid e=>by grind);refine⟨_,?_,r1,?_⟩
        .exact .ref (by grind[AI.cut]) hcap hs hn
        grind[Uv]
     grind
   grind
  .split at h
   .rename_i y hy
    simp only[Aw,A4] at h;obtain⟨rfl,rfl⟩:=h;obtain⟨r1,r2⟩:=tI (L:=L) (r:=none) hI hro GZ hx GK fD (λid e=>by grind);refine⟨_,?_,r1,?_⟩
    .have hk:Gs s.bs.length s'.ts.length g' (g'.cut s.bs.length none):=⟨λ_ _ a b=>OV a b,λ_ a b=>⟨a,b⟩,λ_ _ _ h=>h,λ_ _ a b=>OW a b,λ_ _ h=>.inl h⟩
     have ho:OU s'.bs s.bs.length g' (g'.cut s.bs.length none) w':=J1 GK hk.mono λid b o h1 h2=>Or.inr ⟨id,h1,by simp,h2⟩
     grind[H7]
    grind[Uv]
   grind
end Go.Tel
