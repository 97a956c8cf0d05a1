/-
  Returns, part 1: what a value is for one who keeps only the first blocks and tokens.
-/
import Derived.Test.YtpgfpakdnijngaaGreatDoorEvG
set_option linter.all false
namespace Go.Tel
structure HA (n m:Nat) (g' g'':AP):Prop where
 blk:∀id b,id<n->g'.blk id=some b->g''.blk id=some b
 dead:∀id,id<n->g'.dead id->g''.dead id
 tok:∀t l,t<m->g'.tok t=some l->g''.tok t=some l
 mp:∀id b,id<n->g'.mp id=some b->g''.mp id=some b
 mono:∀b o,g'.I b o->g''.I b o
def PL (bs:List (List AV)) (n:Nat) (g' g'':AP) (w:World):Prop:=
 ∀id off len sz rows v,n<=id->V g' w (.ref id off len sz) v->KL bs id off len sz=some rows->VP g''.I w (.list rows) v
theorem PL.nil {n:Nat} {g' g'':AP} {w:World}:PL [] n g' g'' w:=λ_ _ _ _ _ _ _ _ h=>by grind[KL]
theorem Ki {E:Env} {g' g'':AP} {w:World} {s:AQ} {n:Nat} (hI:Inv E g' w s) (hmono:∀b o,g'.I b o->g''.I b o) (ACf:∀id b o,n<=id->g'.blk id=some b->g''.I b o):PL s.bs n g' g'' w:=by
 intro id off len sz rows v hn hv h;unfold KL at h;split at h
 .rename_i cs hcs
  split at h
  .rename_i hc
   split at h
   .rename_i ps hps
    simp at h; subst h;cases hv with
    | JI hd=>
     have:=hI.Dn id hd
     grind
    | @ref _ _ _ _ b cap nn e IY hcap hs sD=>
     obtain⟨cs',vs,e',k1,k2,kle,k3⟩:=hI.blk id b IY;rw[hcs] at k1; simp at k1; subst k1;have hvl:=(k3.drop off).take (len*sz);obtain⟨q1,q2⟩:=G5 hvl hps;have sB:(((vs.take cs.length).drop off).take (len*sz)).length=len*sz:=AB;have hfl:Flat g'.I w (CI sz len ps) sz (((vs.take cs.length).drop off).take (len*sz)):=IX sB q1 q2;have AXR:Flat g''.I w (CI sz len ps) sz (((vs.take cs.length).drop off).take (len*sz)):=hfl.mono hmono (λ_ _ _=>rfl);have hra:=AXR.fY (b:=b) (o:=off) (λq _=>ACf id b _ hn IY) (λq u hq=>by grind[Bu])
     grind[VP.JH,Fe]
   grind
  grind
 grind
mutual
theorem IZ {g' g'':AP} {w:World} {bs:List (List AV)} {n m:Nat} (hI:PL bs n g' g'' w) (hk:HA n m g' g''):∀(x y:AV) (v:Value),close bs n m x=some y->V g' w x v->V g'' w y v
 | .pv p,y,v,h,hv=>by
  simp[close] at h; subst h;cases hv with|pv hv=>exact .pv (hv.mono hk.mono λ_ _ _=>rfl)
 | .ptr id off,y,v,h,hv=>by
  simp only[close] at h;split at h
  .rename_i hid
   simp at h; subst h;cases hv with
   | ptr hb=>exact .ptr (hk.blk _ _ hid hb)
   | Li hd=>exact .Li (hk.dead _ hid hd)
  grind
 | .Dt gl off,y,v,h,hv=>by
  simp[close] at h; subst h;cases hv with|Dt=>exact .Dt _ _
 | .Cw row off,y,v,h,hv=>by
  simp[close] at h; subst h;cases hv with
  | Cw _ f hr=>exact .Cw _ f λj c hj=>⟨hk.mono _ _ (hr j c hj).1,(hr j c hj).2.1,(hr j c hj).2.2.mono hk.mono λ_ _ _=>rfl⟩
 | .AE rows,y,v,h,hv=>by
  simp[close] at h; subst h;cases hv with|AE hr=>exact .AE (hr.mono hk.mono λ_ _ _=>rfl)
 | .own t rows,y,v,h,hv=>by
  simp only[close] at h;split at h
  .rename_i ht
   simp at h; subst h;cases hv with|own hr hcap Vl hn hf=>exact .own (hr.mono hk.mono λ_ _ _=>rfl) hcap (hk.tok _ _ ht Vl) hn hf
  .simp at h; subst h
   cases hv with|own hr hcap Vl hn hf=>exact .pv (VP.JH (hr.mono hk.mono λ_ _ _=>rfl) hcap)
 | .ref id off len sz,y,v,h,hv=>by
  simp only[close] at h;split at h
  .rename_i hid
   simp at h; subst h;cases hv with
   | ref hb hcap hs hn=>exact .ref (hk.blk _ _ hid hb) hcap hs hn
   | JI hd=>exact .JI (hk.dead _ hid hd)
  .rename_i hid
   split at h
   .rename_i rows hr
    simp at h; subst h;exact .pv (hI _ _ _ _ _ _ AA hv hr)
   grind
 | .func fn a b,y,v,h,hv=>by
  simp only[close] at h;split at h
  .rename_i a' b' ha hb
   simp at h; subst h;obtain⟨vs,us,rfl,h1,h2⟩:=hv.ag;have k1:=GX hI hk a a' vs ha h1;have k2:=GX hI hk b b' us hb h2;exact .func k1.len k2.len k1.at_ k2.at_
  grind
 | .iface t x,y,v,h,hv=>by
  simp only[close] at h;split at h
  .rename_i x' hx
   simp at h; subst h;cases hv with|iface hv=>exact .iface (IZ hI hk x x' _ hx hv)
  grind
 | .agg cs,y,v,h,hv=>by
  simp only[close] at h;split at h
  .rename_i cs' hx
   simp at h; subst h;obtain⟨vs,rfl,h1⟩:=hv.Yg;exact V.su (GX hI hk cs cs' vs hx h1)
  grind
 | .tuple cs,y,v,h,hv=>by
  simp only[close] at h;split at h
  .rename_i cs' hx
   simp at h; subst h;obtain⟨vs,rfl,h1⟩:=hv.QZ;exact V.tuple' (GX hI hk cs cs' vs hx h1)
  grind
 | .Gh,y,v,h,hv=>by
  simp[close] at h; subst h;cases hv with|Gh=>exact .Gh
 | .HQ id,y,v,h,hv=>by
  simp only[close] at h;split at h
  .rename_i hid
   simp at h; subst h;cases hv with|HQ hb=>exact .HQ (hk.mp _ _ hid hb)
  grind
 | .O9 _ _,y,v,h,hv=>by grind[close]
 | .bz id t k,y,v,h,hv=>by
  simp only[close] at h;split at h
  .rename_i hid
   simp at h; subst h;cases hv with
   | bz hb hs=>exact .bz (hk.blk _ _ hid hb) hs
   | ru hd=>exact .ru (hk.dead _ hid hd)
  grind
theorem GX {g' g'':AP} {w:World} {bs:List (List AV)} {n m:Nat} (hI:PL bs n g' g'' w) (hk:HA n m g' g''):∀(xs ys:List AV) (vs:List Value),BR bs n m xs=some ys->VL g' w xs vs->VL g'' w ys vs
 | [],ys,vs,h,hv=>by
  simp[BR] at h; subst h;rw[hv.GN];exact .nil
 | x::xs,ys,vs,h,hv=>by
  simp only[BR] at h;split at h
  .rename_i c cs hc hcs
   simp at h; subst h;obtain⟨u,us,rfl,h1,h2⟩:=hv.cases;exact .cons (IZ hI hk x c u hc h1) (GX hI hk xs cs us hcs h2)
  grind
end
mutual
theorem Td (n m:Nat):∀x:AV,Fx x=true->close [] n m x=some x
 | .pv _,_=>by rfl
 | .ptr _ _,h=>by grind[Fx]
 | .Dt _ _,_=>by rfl
 | .Cw _ _,_=>by rfl
 | .AE _,_=>by rfl
 | .own _ _,h=>by grind[Fx]
 | .ref _ _ _ _,h=>by grind[Fx]
 | .func _ a b,h=>by
  simp only[Fx,AH] at h;simp[close,HB n m a h.1,HB n m b h.2]
 | .iface _ x,h=>by
  simp only[Fx] at h;simp[close,Td n m x h]
 | .agg cs,h=>by
  simp only[Fx] at h;simp[close,HB n m cs h]
 | .tuple cs,h=>by
  simp only[Fx] at h;simp[close,HB n m cs h]
 | .Gh,_=>by rfl
 | .HQ _,h=>by grind[Fx]
 | .O9 _ _,h=>by grind[Fx]
 | .bz _ _ _,h=>by grind[Fx]
theorem HB (n m:Nat):∀xs:List AV,DK xs=true->BR [] n m xs=some xs
 | [],_=>by rfl
 | x::xs,h=>by
  simp only[DK,AH] at h;simp[BR,Td n m x h.1,HB n m xs h.2]
end
theorem Jp {n:Nat}:∀{cs:List AV} {i:Nat} {c:AV},Ah n cs=true->cs[i]?=some c->Aw n c=true
 | [],_,_,_,h=>by grind
 | x::xs,0,c,h,hc=>by grind[Ah]
 | x::xs,i+1,c,h,hc=>by
  simp only[Ah,AH] at h;exact Jp h.2 Be
structure Qj (n:Nat) (g' g'':AP):Prop where
 blk:∀id b,id<n->g'.blk id=some b->g''.blk id=some b
 dead:∀id,id<n->g'.dead id->g''.dead id
 tok:∀t l,g'.tok t=some l->g''.tok t=some l
 mp:∀id b,id<n->g'.mp id=some b->g''.mp id=some b
 mono:∀b o,g'.I b o->g''.I b o
theorem V.keep {n:Nat} {g' g'':AP} {w:World} (hk:Qj n g' g'') {x:AV} {v:Value} (h:V g' w x v) (hn:Aw n x=true):V g'' w x v:=by
 induction h with
 | pv h=>exact .pv (h.mono hk.mono λ_ _ _=>rfl)
 | ptr h=>exact .ptr (hk.blk _ _ (by simp_all[Aw]) h)
 | Li h=>exact .Li (hk.dead _ (by simp_all[Aw]) h)
 | Dt gl off=>grind[Dt]
 | Cw off f h=>exact .Cw off f λj c hj=>⟨hk.mono _ _ (h j c hj).1,(h j c hj).2.1,(h j c hj).2.2.mono hk.mono λ_ _ _=>rfl⟩
 | AE h=>exact .AE (h.mono hk.mono λ_ _ _=>rfl)
 | own h hcap ht hn' hf=>exact .own (h.mono hk.mono λ_ _ _=>rfl) hcap (hk.tok _ _ ht) hn' hf
 | ref h hcap hs hn'=>exact .ref (hk.blk _ _ (by simp_all[Aw]) h) hcap hs hn'
 | JI h=>exact .JI (hk.dead _ (by simp_all[Aw]) h)
 | Gh=>exact .Gh
 | HQ h=>exact .HQ (hk.mp _ _ (by simp_all[Aw]) h)
 | bz h hs=>exact .bz (hk.blk _ _ (by simp_all[Aw]) h) hs
 | ru h=>exact .ru (hk.dead _ (by simp_all[Aw]) h)
 | func hl hm _ _ ih ik=>
  grind[Aw,func,Jp]
 | iface _ ih=>grind[iface,Aw]
 | agg hl _ ih=>grind[agg,Jp,Aw]
 | tuple hl _ ih=>grind[tuple,Jp,Aw]
theorem VL.keep {n:Nat} {g' g'':AP} {w:World} (hk:Qj n g' g'') {xs:List AV} {vs:List Value} (h:VL g' w xs vs) (hn:Ah n xs=true):VL g'' w xs vs:=
 ⟨h.len,λi c v h1 h2=>(h.at_ i c v h1 h2).keep hk (Jp hn h1)⟩
def AP.Mn (g:AP) (I:Nat->Nat->Prop):AP:={ g with I:=I }
theorem bC {E:Env} {L:BL} {g:AP} {w w':World} {s:AQ} {I:Nat->Nat->Prop} (hI:Inv E g w s) (os:w'.os=w.os) (tape:w'.tape=w.tape) (output:w'.output=w.output) (size:w.heap.size<=w'.heap.size)
  (mono:∀b o,g.I b o->I b o) (keep:∀b,b<w.heap.size->w'.heap[b]?=w.heap[b]?/\∀o,I b o->g.I b o) (Kf:∀b o,I b o->b<w'.heap.size)
  (Fv:∀gl row,E.G gl=some row->∀j c,row[j]?=some c->∃v,I gl j/\w'.cell? ⟨gl,j,none⟩=some v/\VP I w' c v) (Dc:∀gl row,E.G gl=some row->I gl row.length/\w'.cell? ⟨gl,row.length,none⟩=none) :
  Ext L g w (g.Mn I) w'/\Inv E (g.Mn I) w' s:=by
 have ext:Ext L g w (g.Mn I) w':={
  os:=os,tape:=tape,output:=output,size:=size,mono:=mono
  cell:=λb o hi=>Ck (keep b (hI.Kf b o hi)).1 o
  blk:=λ_ _ hb=>.inl hb
  dead:=λ_ hd=>hd
  shape:=λ_ b hb _=>ED (keep b (hI.FI hb)).1
  tok:=λ_ l hl=>⟨l,hl,.inl rfl⟩
  Ga:=λ_ b hb _=>⟨hb,(keep b (hI.FI hb)).1⟩
  F0:=λ_ l hl _=>⟨hl,(keep l.b (hI.HU hl)).1,(keep l.b (hI.HU hl)).2⟩
  out:=λb hb _ _ _=>keep b hb
  mp:=λ_ _ hb=>hb
  F1:=λ_ b hb=>⟨λ_=>(keep b (hI.PD hb)).1,(keep b (hI.PD hb)).2⟩
  K2:=λid _ hb _=>⟨id,hb⟩
  HR:=λid _ hb _=>⟨id,hb⟩
  K3:=λ_ l hl _=>⟨l,hl,rfl⟩
  DJ:=λ_ hp=>hp }
 refine⟨ext,?_⟩
 exact {
  Ex:=hI.Ex,Dm:=hI.Dm,Dn:=hI.Dn,Dw:=hI.Dw,Ec:=hI.Ec,Gx:=hI.Gx,Gy:=hI.Gy,FF:=hI.FF,Ge:=hI.Ge,DL:=hI.DL,Kf:=Kf,Fv:=Fv,Dc:=Dc,MM:=hI.MM,Ho:=hI.Ho
  mp:=hI.Iv (λ_ _ _=>rfl) (λ_ b hb=>(keep b (hI.PD hb)).1)
  blk:=λid b hb=>by
   obtain⟨cs,vs,e,h1,h2,h3,h4⟩:=hI.blk id b hb;exact⟨cs,vs,e,h1,(keep b (hI.FI hb)).1.trans h2,h3,h4.mono ext⟩
  GO:=λid b o hb hi=>hI.GO id b o hb ((keep b (hI.FI hb)).2 o hi)
  tok:=λt l hl=>by
   obtain⟨vs,e,h1,h2⟩:=hI.tok t l hl
   grind
  HG:=λt l o hl hle hi=>hI.HG t l o hl hle ((keep l.b (hI.HU hl)).2 o hi) }
def AP.KU (g:AP) (n:Nat) (b o:Nat):Prop:=g.I b o\/∃id,n<=id/\g.blk id=some b
theorem Te {E:Env} {g':AP} {w':World} {s':AQ} {I:Nat->Nat->Prop} (hI:Inv E g' w' s') (hm:∀b o,g'.I b o->I b o) :
  ∀gl row,E.G gl=some row->∀j c,row[j]?=some c->∃v,I gl j/\w'.cell? ⟨gl,j,none⟩=some v/\VP I w' c v:=λgl row hr j c hj=>by
 obtain⟨v,h1,h2,h3⟩:=hI.Fv gl row hr j c hj;exact⟨v,hm _ _ h1,h2,h3.mono hm λ_ _ _=>rfl⟩
theorem Qk {E:Env} {g':AP} {w':World} {s':AQ} {I:Nat->Nat->Prop} (hI:Inv E g' w' s') (hm:∀b o,g'.I b o->I b o) :
  ∀gl row,E.G gl=some row->I gl row.length/\w'.cell? ⟨gl,row.length,none⟩=none:=λgl row hr=>⟨hm _ _ (hI.Dc gl row hr).1,(hI.Dc gl row hr).2⟩
theorem AAc {E:Env} {L:BL} {g g':AP} {w w':World} {s s':AQ} (hI:Inv E g w s) (hx:Ext L g w g' w') (Gj:Inv E g' w' s') {id b:Nat} (hid:id<s.bs.length) (hb:g'.blk id=some b):∃b0,g.blk id=some b0/\b0=b:=by
 rcases hI.Ec id hid with ⟨b0,h0⟩|hd|hp|⟨b0,hm⟩
 .rcases hx.blk id b0 h0 with k|k
  .grind
  .rw[g'.hd id k] at hb; grind
 .rw[g'.hd id (hx.dead id hd)] at hb; grind
 .rw[(Gj.Dw id (hx.DJ id hp)).2.1] at hb; grind
 .rw[(Gj.MM id b0 (hx.mp id b0 hm)).1] at hb; grind
theorem AFt {E:Env} {L:BL} {g g':AP} {w w':World} {s s':AQ} (hI:Inv E g w s) (hx:Ext L g w g' w') (Gj:Inv E g' w' s') {id:Nat} (hid:id<s.bs.length):id<s'.bs.length:=by
 rcases hI.Ec id hid with ⟨b0,h0⟩|hd|hp|⟨b0,hm⟩
 .rcases hx.blk id b0 h0 with k|k
  .exact Gj.Ex id b0 k
  .exact Gj.Dm id k
 .exact Gj.Dm id (hx.dead id hd)
 .exact(Gj.Dw id (hx.DJ id hp)).1
 .exact Gj.mpN (hx.mp id b0 hm)
theorem AFu {E:Env} {L:BL} {g g':AP} {w w':World} {s s':AQ} (hI:Inv E g w s) (hx:Ext L g w g' w') (Gj:Inv E g' w' s') {id b:Nat} (hid:id<s.bs.length) (hb:g'.mp id=some b):g.mp id=some b:=by
 obtain⟨x1,x2,x3⟩:=Gj.MM id b hb;rcases hI.Ec id hid with ⟨b0,h0⟩|hd|hp|⟨b0,hm⟩
 .rcases hx.blk id b0 h0 with k|k
  all_goals grind
 .exact absurd (hx.dead id hd) x2
 .exact absurd (hx.DJ id hp) x3
 .rw[hx.mp id b0 hm] at hb
  grind
theorem AFv {E:Env} {L L':BL} {g g':AP} {w w':World} {s s':AQ} (hI:Inv E g w s) (hro:L'.ro=s.bs.length) (Ee:L'.rt=s.ts.length) (hx:Ext L' g w g' w') (Gj:Inv E g' w' s') :
  Ext L g w (g.Mn (g'.KU s.bs.length)) w'/\Inv E (g.Mn (g'.KU s.bs.length)) w' s/\HA s.bs.length s.ts.length g' (g.Mn (g'.KU s.bs.length))/\PL s'.bs s.bs.length g' (g.Mn (g'.KU s.bs.length)) w':=by
 have hkb:∀id b,g.blk id=some b->g'.blk id=some b/\w'.heap[b]?=w.heap[b]?:=λid b hb=>hx.Ga id b hb (by rw[hro]; exact hI.Ex id b hb)
 have hkt:∀t l,g.tok t=some l->g'.tok t=some l/\w'.heap[l.b]?=w.heap[l.b]?/\∀o,g'.I l.b o->g.I l.b o:=λt l hl=>hx.F0 t l hl (by
  have:=hI.Gy t l hl
  grind)
 have hmono:∀b o,g'.I b o->g'.KU s.bs.length b o:=λ_ _ h=>.inl h
 have keep:∀b,b<w.heap.size->w'.heap[b]?=w.heap[b]?/\∀o,g'.KU s.bs.length b o->g.I b o:=λb hb=>by
  by_cases h1:∃id,g.blk id=some b
  .obtain⟨id,h1⟩:=h1
   obtain⟨a1,a2⟩:=hkb id b h1;refine⟨a2,λo ho=>?_⟩;rcases ho with ho|⟨id',h2,h3⟩
   .exact absurd ho (Gj.GO id b o a1)
   .have:=Gj.FF id id' b a1 h3
    have:=hI.Ex id b h1;omega
  .have aM:∀id,g.blk id≠some b:=λid e=>h1 ⟨id,e⟩
   have hno:∀id',g'.blk id'≠some b:=λid' h3=>by
    obtain⟨FO,h4⟩:=hx.HR id' b h3 hb
    grind
   by_cases hm:∃id,g.mp id=some b
   .obtain⟨id,hm⟩:=hm
    obtain⟨a1,a2⟩:=hx.F1 id b hm;refine⟨a1 (by rw[hro]; exact hI.mpN hm),λo ho=>?_⟩;rcases ho with ho|⟨id',_,h3⟩
    all_goals grind
   have hm':∀id,g.mp id≠some b:=λid e=>hm ⟨id,e⟩
   by_cases h2:∃t l,g.tok t=some l/\l.b=b
   .obtain⟨t,l,h2,rfl⟩:=h2
    obtain⟨_,a2,a3⟩:=hkt t l h2;refine⟨a2,λo ho=>?_⟩;rcases ho with ho|⟨id',_,h3⟩
    all_goals grind
   .obtain⟨a1,a2⟩:=hx.out b hb aM (λt l hl e=>h2 ⟨t,l,hl,e⟩) hm'
    refine⟨a1,λo ho=>?_⟩;rcases ho with ho|⟨id',_,h3⟩
    all_goals grind
 have AFw:∀b o,g'.KU s.bs.length b o->b<w'.heap.size:=λb o ho=>by
  rcases ho with ho|⟨id',_,h3⟩
  .exact Gj.Kf b o ho
  .exact Gj.FI h3
 obtain⟨r1,r2⟩:=bC (L:=L) hI hx.os hx.tape hx.output hx.size (λb o h=>hmono b o (hx.mono b o h)) keep AFw (Te Gj hmono) (Qk Gj hmono);refine⟨r1,r2,⟨λid b hid hb=>?_,λid hid hd=>?_,λt l ht hl=>?_,λid b hid hb=>AFu hI hx Gj hid hb,hmono⟩,Ki Gj hmono λid b o hid hb=>.inr ⟨id,hid,hb⟩⟩
 .obtain⟨b0,h0,rfl⟩:=AAc hI hx Gj hid hb
  exact h0
 .rcases hI.Ec id hid with ⟨b0,h0⟩|hd' | hp|⟨b0,hm⟩
  .have:=(hkb id b0 h0).1
   rw[g'.hd id hd] at this; grind
  .exact hd'
  .exact absurd hd (Gj.Dw id (hx.DJ id hp)).2.2
  .exact absurd hd (Gj.MM id b0 (hx.mp id b0 hm)).2.1
 .have hs:s.ts[t]?=some (s.ts[t].1,s.ts[t].2):=by grind
  obtain⟨l0,h0,_⟩:=hI.Gx t _ _ hs;have:=(hkt t l0 h0).1;rw[hl] at this; simp at this; subst this;exact h0
def AP.bare (I:Nat->Nat->Prop):AP:=⟨λ_=>none,λ_=>False,λ_=>False,λ_=>none,λ_=>none,I,λ_ h=>h.elim⟩
theorem Inv.bare {E:Env} {g:AP} {w:World} {s:AQ} (h:Inv E g w s):Inv E (AP.bare g.I) w ⟨[],[]⟩ where
 Ex:=λ_ _ h=>by grind[AP.bare]
 Dm:=λ_ h=>by grind[AP.bare]
 blk:=λ_ _ h=>by grind[AP.bare]
 GO:=λ_ _ _ h=>by grind[AP.bare]
 Dn:=λ_ h=>by grind[AP.bare]
 Dw:=λ_ h=>by grind[AP.bare]
 Ec:=λ_ h=>by grind
 mp:=λ_ _ h=>by grind[AP.bare]
 MM:=λ_ _ h=>by grind[AP.bare]
 Ho:=λ_ _ _ h=>by grind[AP.bare]
 Gx:=λ_ _ _ h=>by grind
 Gy:=λ_ _ h=>by grind[AP.bare]
 tok:=λ_ _ h=>by grind[AP.bare]
 HG:=λ_ _ _ h=>by grind[AP.bare]
 FF:=λ_ _ _ h=>by grind[AP.bare]
 Ge:=λ_ _ _ _ h=>by grind[AP.bare]
 DL:=λ_ _ _ _ h=>by grind[AP.bare]
 Kf:=h.Kf
 Fv:=h.Fv
 Dc:=h.Dc
theorem HA.bare {g:AP}:HA 0 0 g (AP.bare g.I):=⟨λ_ _ h=>absurd h (HM _),λ_ h=>absurd h (HM _),λ_ _ h=>absurd h (HM _),λ_ _ h=>absurd h (HM _),λ_ _ h=>h⟩
theorem tY {E:Env} {L L':BL} {g g':AP} {w w':World} {s s':AQ} (hI:Inv E g w s) (hx:Ext L' (AP.bare g.I) w g' w') (Gj:Inv E g' w' s') :
  Ext L g w (g.Mn (g'.KU 0)) w'/\Inv E (g.Mn (g'.KU 0)) w' s/\HA 0 0 g' (g.Mn (g'.KU 0))/\PL s'.bs 0 g' (g.Mn (g'.KU 0)) w':=by
 have hmono:∀b o,g'.I b o->g'.KU 0 b o:=λ_ _ h=>.inl h
 have keep:∀b,b<w.heap.size->w'.heap[b]?=w.heap[b]?/\∀o,g'.KU 0 b o->g.I b o:=λb hb=>by
  obtain⟨a1,a2⟩:=hx.out b hb (λ_ e=>by grind[AP.bare]) (λ_ _ e=>by grind[AP.bare]) (λ_ e=>by grind[AP.bare]);refine⟨a1,λo ho=>?_⟩;rcases ho with ho|⟨id',_,h3⟩
  .exact a2 o ho
  .obtain⟨FO,h4⟩:=hx.HR id' b h3 hb
   grind[AP.bare]
 have AFw:∀b o,g'.KU 0 b o->b<w'.heap.size:=λb o ho=>by
  rcases ho with ho|⟨id',_,h3⟩
  .exact Gj.Kf b o ho
  .exact Gj.FI h3
 obtain⟨r1,r2⟩:=bC (L:=L) hI hx.os hx.tape hx.output hx.size (λb o h=>hmono b o (hx.mono b o h)) keep AFw (Te Gj hmono) (Qk Gj hmono);exact⟨r1,r2,⟨λ_ _ h=>absurd h (HM _),λ_ h=>absurd h (HM _),λ_ _ h=>absurd h (HM _),λ_ _ h=>absurd h (HM _),hmono⟩,Ki Gj hmono λid b o hid hb=>.inr ⟨id,hid,hb⟩⟩
def AP.cut (g:AP) (n:Nat) (r:Option Nat):AP where
 blk id:=if id<n then g.blk id else if id=n then r.bind g.blk else none
 dead id:=id<n/\g.dead id
 DJ id:=id<n/\g.DJ id
 tok:=g.tok
 mp id:=if id<n then g.mp id else none
 I b o:=g.I b o\/∃id,n<=id/\r≠some id/\g.blk id=some b
 hd id h:=by simp[h.1,g.hd id h.2]
theorem JL {g:AP} {n:Nat} {r:Option Nat} {id b:Nat} (h:(g.cut n r).blk id=some b):(id<n/\g.blk id=some b)\/(id=n/\∃FO,r=some FO/\g.blk FO=some b):=by
 simp only[AP.cut] at h;split at h
 .grind
 .split at h
  .rename_i hid
   cases r with
   | none=>grind
   | some FO=>grind
  grind
theorem PM {g:AP} {n:Nat} {r:Option Nat} {id b:Nat} (hid:id<n) (h:g.blk id=some b):(g.cut n r).blk id=some b:=by grind[AP.cut]
theorem Tf {g:AP} {n:Nat} {r:Option Nat} {id b:Nat} (h:(g.cut n r).mp id=some b):id<n/\g.mp id=some b:=by grind[AP.cut]
theorem PN {g:AP} {n:Nat} {r:Option Nat} {id b:Nat} (hid:id<n) (h:g.mp id=some b):(g.cut n r).mp id=some b:=by grind[AP.cut]
theorem Qj.cut {g:AP} {n:Nat} {r:Option Nat}:Qj n g (g.cut n r):=
 ⟨λ_ _ hid hb=>PM hid hb,λ_ hid hd=>⟨hid,hd⟩,λ_ _ h=>h,λ_ _ hid hb=>PN hid hb,λ_ _ h=>.inl h⟩
def Vx (s:AQ) (n:Nat) (r:Option Nat):AQ:=⟨s.bs.take n++(match r with|none=>[]|some id=>(s.bs[id]?).toList),s.ts⟩
theorem tZ {E:Env} {L L':BL} {g g':AP} {w w':World} {s s':AQ} {r:Option Nat} (hI:Inv E g w s) (hro:L'.ro=L.ro) (Ee:L'.rt=L.rt) (hx:Ext L' g w g' w') (Gj:Inv E g' w' s')
  (gN:(s'.bs.take s.bs.length).all (Ah s.bs.length)=true)
  (hr:∀id,r=some id->s.bs.length<=id/\(∃b,g'.blk id=some b)/\∀cs,s'.bs[id]?=some cs->Ah s.bs.length cs=true) :
  Ext L g w (g'.cut s.bs.length r) w'/\Inv E (g'.cut s.bs.length r) w' (Vx s' s.bs.length r):=by
 have hle:s.bs.length<=s'.bs.length:=by
  rcases Fl 0 s.bs.length with k|k
  .have:=AFt hI hx Gj (id:=s.bs.length-1) AA; omega
  omega
 have htl:(s'.bs.take s.bs.length).length=s.bs.length:=AB;have hbN:∀id b,g.blk id=some b->id<s.bs.length:=hI.Ex
 have hno:∀b o,(∀id,g'.blk id=some b->id<s.bs.length)->(g'.cut s.bs.length r).I b o->g'.I b o:=λb o h hi=>by
  rcases hi with hi|⟨id,h1,_,h3⟩
  all_goals grind
 have get:∀id,id<s.bs.length->(Vx s' s.bs.length r).bs[id]?=s'.bs[id]?:=λid hid=>by simp[*,Vx,CT]
 have ids:∀id cs,id<s.bs.length->s'.bs[id]?=some cs->Ah s.bs.length cs=true:=λid cs hid hcs=>by
  rw[C3] at gN;refine gN cs (A3 (i:=id) ?_)
  grind
 have ext:Ext L g w (g'.cut s.bs.length r) w':={
  os:=hx.os,tape:=hx.tape,output:=hx.output,size:=hx.size
  mono:=λb o hi=>.inl (hx.mono b o hi)
  cell:=hx.cell
  blk:=λid b hb=>by
   rcases hx.blk id b hb with k|k
   .grind[PM]
   .exact .inr ⟨hbN id b hb,k⟩
  dead:=λid hd=>⟨hI.Dm id hd,hx.dead id hd⟩
  shape:=λid b hb hb'=>by
   rcases JL hb' with ⟨_,k⟩|⟨k,_⟩
   .exact hx.shape id b hb k
   grind
  tok:=hx.tok
  Ga:=λid b hb hlt=>by
   obtain⟨a1,a2⟩:=hx.Ga id b hb AA
   grind[PM]
  F0:=λt l hl hlt=>by
   obtain⟨a1,a2,a3⟩:=hx.F0 t l hl AA;refine⟨a1,a2,λo ho=>a3 o ?_⟩;rcases ho with ho|⟨id,_,_,h3⟩
   .omega
   .exact absurd rfl (Gj.DL id l.b t l h3 a1)
  mp:=λid b hb=>PN (hI.mpN hb) (hx.mp id b hb)
  F1:=λid b hb=>by
   obtain⟨a1,a2⟩:=hx.F1 id b hb;refine⟨λhlt=>a1 AA,λo ho=>a2 o ?_⟩;rcases ho with ho|⟨id',_,_,h3⟩
   .omega
   .exact absurd h3 (Gj.mpB (hx.mp id b hb))
  K2:=λid b hb hlt=>hx.K2 id b (Tf hb).2 hlt
  out:=λb hb h1 h2 h3=>by
   obtain⟨a1,a2⟩:=hx.out b hb h1 h2 h3;refine⟨a1,λo ho=>a2 o ?_⟩;rcases ho with ho|⟨id,_,_,h3⟩
   .omega
   .obtain⟨FO,h4⟩:=hx.HR id b h3 hb
    grind
  HR:=λid b hb hlt=>by
   rcases JL hb with ⟨_,k⟩|⟨_,FO,_,k⟩
   .exact hx.HR id b k hlt
   .exact hx.HR FO b k hlt
  K3:=hx.K3
  DJ:=λid hp=>⟨(hI.Dw id hp).1,hx.DJ id hp⟩ }
 have ACg:∀FO,r=some FO->∃cs,s'.bs[FO]?=some cs/\(Vx s' s.bs.length r).bs[s.bs.length]?=some cs/\(Vx s' s.bs.length r).bs.length=s.bs.length+1:=λFO e=>by
  obtain⟨_,⟨b,hb⟩,_⟩:=hr FO e;have hlt:=Gj.Ex FO b hb;simp[*,Vx]
 have hlen:s.bs.length<=(Vx s' s.bs.length r).bs.length:=AB;refine⟨ext,?_⟩
 exact {
  Ex:=λid b hb=>by
   rcases JL hb with ⟨k,_⟩|⟨rfl,FO,e,_⟩
   all_goals grind
  Dm:=λid hd=>by have:=hd.1; omega
  blk:=λid b hb=>by
   rcases JL hb with ⟨k,hb⟩|⟨rfl,FO,e,hb⟩
   .obtain⟨cs,vs,e,h1,h2,h3,h4⟩:=Gj.blk id b hb
    exact⟨cs,vs,e,(get id k).trans h1,h2,h3,h4.keep Qj.cut (ids id cs k h1)⟩
   .obtain⟨cs,vs,e',h1,h2,h3,h4⟩:=Gj.blk FO b hb
    obtain⟨cs',k1,k2,_⟩:=ACg FO e;rw[h1] at k1; simp at k1; subst k1;exact⟨cs,vs,e',k2,h2,h3,h4.keep Qj.cut ((hr FO e).2.2 cs h1)⟩
  GO:=λid b o hb hi=>by
   rcases JL hb with ⟨k,hb⟩|⟨rfl,FO,e,hb⟩
   .rcases hi with hi|⟨id',h1,_,h3⟩
    .exact Gj.GO id b o hb hi
    .have:=Gj.FF id id' b hb h3; omega
   .rcases hi with hi|⟨id',h1,h2,h3⟩
    .exact Gj.GO FO b o hb hi
    .have:=Gj.FF FO id' b hb h3
     grind
  Dn:=λid hd=>(get id hd.1).trans (Gj.Dn id hd.2)
  Dw:=λid hp=>by
   obtain⟨a,b,c⟩:=Gj.Dw id hp.2
   grind[AP.cut]
  Ec:=λid hid=>by
   by_cases k:id<s.bs.length
   .rcases Gj.Ec id AA with ⟨b,hb⟩|hd|hp|⟨b,hm⟩
    .grind[PM]
    .exact .inr (.inl ⟨k,hd⟩)
    .exact .inr (.inr (.inl ⟨k,hp⟩))
    grind[PN]
   .cases e:r with
    | none=>
     grind[Vx]
    | some FO=>
     obtain⟨_,_,_,h3⟩:=ACg FO e;rw[h3] at hid;have:id=s.bs.length:=AA;simp[*,AP.cut]
  mp:=λid b hb=>by
   obtain⟨k,hm⟩:=Tf hb;obtain⟨es,c,h1,h2⟩:=Gj.mp id b hm
   grind
  MM:=λid b hb=>by
   obtain⟨k,hm⟩:=Tf hb;obtain⟨a1,a2,a3⟩:=Gj.MM id b hm
   grind[AP.cut]
  Ho:=λid id' b hb hb'=>Gj.Ho id id' b (Tf hb).2 (Tf hb').2
  Gx:=Gj.Gx
  Gy:=Gj.Gy
  tok:=Gj.tok
  HG:=λt l o hl hle hi=>by
   rcases hi with hi|⟨id',_,_,h3⟩
   .exact Gj.HG t l o hl hle hi
   .exact absurd rfl (Gj.DL id' l.b t l h3 hl)
  FF:=λid id' b hb hb'=>by
   rcases JL hb with ⟨k,hb⟩|⟨rfl,FO,e,hb⟩
   .rcases JL hb' with ⟨k',hb'⟩|⟨rfl,FO,e,hb'⟩
    .exact Gj.FF id id' b hb hb'
    .have:=Gj.FF id FO b hb hb'
     grind
   .rcases JL hb' with ⟨k',hb'⟩|⟨rfl,_⟩
    .have:=Gj.FF id' FO b hb' hb
     grind
    rfl
  Ge:=Gj.Ge
  DL:=λid b t l hb hl=>by
   rcases JL hb with ⟨_,hb⟩|⟨_,FO,_,hb⟩
   .exact Gj.DL id b t l hb hl
   .exact Gj.DL FO b t l hb hl
  Kf:=λb o hi=>by
   rcases hi with hi|⟨id,_,_,h3⟩
   .exact Gj.Kf b o hi
   .exact Gj.FI h3
  Fv:=Te Gj λ_ _ h=>.inl h
  Dc:=Qk Gj λ_ _ h=>.inl h }
theorem bD {E:Env} {L L':BL} {g g':AP} {w w':World} {s s' s'':AQ} {r:Bool} {v x:AV} {u:Value} (hI:Inv E g w s) (hro:L'.ro=L.ro) (Ee:L'.rt=L.rt) (hx:Ext L' g w g' w') (Gj:Inv E g' w' s')
  (hv:V g' w' x u) (h:Hs r s.bs.length x s'=some (v,s'')):∃g'',V g'' w' v u/\Ext L g w g'' w'/\Inv E g'' w' s'':=by
 unfold Hs at h;cases gN:(s'.bs.take s.bs.length).all (Ah s.bs.length) with
 | false=>grind
 | true=>
  rw[gN] at h;simp only[AM] at h;split at h
  .rename_i id off len sz hnr
   unfold Hz at hnr;split at hnr
   .rename_i id' off' len' sz'
    cases hc:(r&&Nat.ble s.bs.length id') with
    | false=>grind
    | true=>
     rw[hc] at hnr;simp at hnr;obtain⟨rfl,rfl,rfl,rfl⟩:=hnr;simp at hc;split at h
     .rename_i c cs hcs
      cases hl:Ah s.bs.length (c::cs) with
      | false=>grind
      | true=>
       rw[hl] at h;simp only[AM,BN,BU] at h;obtain⟨rfl,rfl⟩:=h;cases hv with
       | JI hd=>have:=Gj.Dn _ hd; grind
       | @ref _ _ _ _ b cap n e IY hcap hs hn=>
        obtain⟨r1,r2⟩:=tZ (L:=L) (r:=some id') hI hro Ee hx Gj gN (λid e=>by grind);refine⟨_,?_,r1,?_⟩
        .exact .ref (by grind[AP.cut]) hcap hs hn
        grind[Vx]
     grind
   grind
  .split at h
   .rename_i y hy
    simp only[BN,BU] at h;obtain⟨rfl,rfl⟩:=h;obtain⟨r1,r2⟩:=tZ (L:=L) (r:=none) hI hro Ee hx Gj gN (λid e=>by grind);refine⟨_,?_,r1,?_⟩
    .have hk:HA s.bs.length s'.ts.length g' (g'.cut s.bs.length none):=⟨λ_ _ a b=>PM a b,λ_ a b=>⟨a,b⟩,λ_ _ _ h=>h,λ_ _ a b=>PN a b,λ_ _ h=>.inl h⟩
     have ho:PL s'.bs s.bs.length g' (g'.cut s.bs.length none) w':=Ki Gj hk.mono λid b o h1 h2=>Or.inr ⟨id,h1,AD,h2⟩
     grind[IZ]
    grind[Vx]
   grind
end Go.Tel
