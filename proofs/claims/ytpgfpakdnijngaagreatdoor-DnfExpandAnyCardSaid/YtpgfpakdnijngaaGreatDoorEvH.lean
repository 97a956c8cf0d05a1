/-
  Returns, part 1: what a value is for one who keeps only the first blocks and tokens.
-/
import Derived.Test.YtpgfpakdnijngaaGreatDoorEvG
set_option linter.all false
namespace Go.Tel
structure Gt (n m:Nat) (g' g'':AE):Prop where
 blk:∀id b,id<n->g'.blk id=some b->g''.blk id=some b
 dead:∀id,id<n->g'.dead id->g''.dead id
 tok:∀t l,t<m->g'.tok t=some l->g''.tok t=some l
 mp:∀id b,id<n->g'.mp id=some b->g''.mp id=some b
 mono:∀b o,g'.I b o->g''.I b o
def Ob (bs:List (List AV)) (n:Nat) (g' g'':AE) (w:World):Prop:=
 ∀id off len sz rows v,n<=id->V g' w (.ref id off len sz) v->Ih bs id off len sz=some rows->VP g''.I w (.list rows) v
theorem Ob.nil {n:Nat} {g' g'':AE} {w:World}:Ob [] n g' g'' w:=λ_ _ _ _ _ _ _ _ h=>by grind[Ih]
theorem KA {E:Env} {g' g'':AE} {w:World} {s:AL} {n:Nat} (hI:Inv E g' w s) (hmono:∀b o,g'.I b o->g''.I b o) (AEh:∀id b o,n<=id->g'.blk id=some b->g''.I b o):Ob s.bs n g' g'' w:=by
 intro id off len sz rows v hn hv h;unfold Ih at h;split at h
 .rename_i cs hcs
  split at h
  .rename_i hc
   split at h
   .rename_i ps hps
    simp at h; subst h;cases hv with
    | Ik hd=>
     have:=hI.DI id hd
     grind
    | @ref _ _ _ _ b cap nn e H8 hcap hs qy=>
     obtain⟨cs',vs,e',k1,k2,kle,k3⟩:=hI.blk id b H8;rw[hcs] at k1; simp at k1; subst k1;have hvl:=(k3.drop off).take (len*sz);obtain⟨q1,q2⟩:=Gn hvl hps;have qw:(((vs.take cs.length).drop off).take (len*sz)).length=len*sz:=by grind
     have hfl:Flat g'.I w (CR sz len ps) sz (((vs.take cs.length).drop off).take (len*sz)):=H7 qw q1 q2;have AVU:Flat g''.I w (CR sz len ps) sz (((vs.take cs.length).drop off).take (len*sz)):=hfl.mono hmono (λ_ _ _=>rfl);have hra:=AVU.eK (b:=b) (o:=off) (λq _=>AEh id b _ hn H8) (λq u hq=>by grind[Bg])
     grind[VP.Hx,FK]
   grind
  grind
 grind
mutual
theorem H9 {g' g'':AE} {w:World} {bs:List (List AV)} {n m:Nat} (hI:Ob bs n g' g'' w) (hk:Gt n m g' g''):∀(x y:AV) (v:Value),close bs n m x=some y->V g' w x v->V g'' w y v
 | .pv p,y,v,h,hv=>by
  simp[close] at h; subst h;cases hv with|pv hv=>exact .pv (hv.mono hk.mono λ_ _ _=>rfl)
 | .ptr id off,y,v,h,hv=>by
  simp only[close] at h;split at h
  .rename_i hid
   simp at h; subst h;cases hv with
   | ptr hb=>exact .ptr (hk.blk _ _ hid hb)
   | KU hd=>exact .KU (hk.dead _ hid hd)
  grind
 | .DX gl off,y,v,h,hv=>by
  simp[close] at h; subst h;cases hv with|DX=>exact .DX _ _
 | .Cn row off,y,v,h,hv=>by
  simp[close] at h; subst h;cases hv with
  | Cn _ f hr=>exact .Cn _ f λj c hj=>⟨hk.mono _ _ (hr j c hj).1,(hr j c hj).2.1,(hr j c hj).2.2.mono hk.mono λ_ _ _=>rfl⟩
 | .AA rows,y,v,h,hv=>by
  simp[close] at h; subst h;cases hv with|AA hr=>exact .AA (hr.mono hk.mono λ_ _ _=>rfl)
 | .own t rows,y,v,h,hv=>by
  simp only[close] at h;split at h
  .rename_i ht
   simp at h; subst h;cases hv with|own hr hcap Vh hn hf=>exact .own (hr.mono hk.mono λ_ _ _=>rfl) hcap (hk.tok _ _ ht Vh) hn hf
  .simp at h; subst h
   cases hv with|own hr hcap Vh hn hf=>exact .pv (VP.Hx (hr.mono hk.mono λ_ _ _=>rfl) hcap)
 | .ref id off len sz,y,v,h,hv=>by
  simp only[close] at h;split at h
  .rename_i hid
   simp at h; subst h;cases hv with
   | ref hb hcap hs hn=>exact .ref (hk.blk _ _ hid hb) hcap hs hn
   | Ik hd=>exact .Ik (hk.dead _ hid hd)
  .rename_i hid
   split at h
   .rename_i rows hr
    simp at h; subst h;exact .pv (hI _ _ _ _ _ _ (by omega) hv hr)
   grind
 | .func fn a b,y,v,h,hv=>by
  simp only[close] at h;split at h
  .rename_i a' b' ha hb
   simp at h; subst h;obtain⟨vs,us,rfl,h1,h2⟩:=hv.Sh;have k1:=GC hI hk a a' vs ha h1;have k2:=GC hI hk b b' us hb h2;exact .func k1.len k2.len k1.at_ k2.at_
  grind
 | .iface t x,y,v,h,hv=>by
  simp only[close] at h;split at h
  .rename_i x' hx
   simp at h; subst h;cases hv with|iface hv=>exact .iface (H9 hI hk x x' _ hx hv)
  grind
 | .agg cs,y,v,h,hv=>by
  simp only[close] at h;split at h
  .rename_i cs' hx
   simp at h; subst h;obtain⟨vs,rfl,h1⟩:=hv.Rv;exact V.nu (GC hI hk cs cs' vs hx h1)
  grind
 | .tuple cs,y,v,h,hv=>by
  simp only[close] at h;split at h
  .rename_i cs' hx
   simp at h; subst h;obtain⟨vs,rfl,h1⟩:=hv.Pc;exact V.tuple' (GC hI hk cs cs' vs hx h1)
  grind
 | .G2,y,v,h,hv=>by
  simp[close] at h; subst h;cases hv with|G2=>exact .G2
 | .FL id,y,v,h,hv=>by
  simp only[close] at h;split at h
  .rename_i hid
   simp at h; subst h;cases hv with|FL hb=>exact .FL (hk.mp _ _ hid hb)
  grind
 | .K7 _ _,y,v,h,hv=>by grind[close]
 | .bz id t k,y,v,h,hv=>by
  simp only[close] at h;split at h
  .rename_i hid
   simp at h; subst h;cases hv with
   | bz hb hs=>exact .bz (hk.blk _ _ hid hb) hs
   | qu hd=>exact .qu (hk.dead _ hid hd)
  grind
theorem GC {g' g'':AE} {w:World} {bs:List (List AV)} {n m:Nat} (hI:Ob bs n g' g'' w) (hk:Gt n m g' g''):∀(xs ys:List AV) (vs:List Value),AX bs n m xs=some ys->VL g' w xs vs->VL g'' w ys vs
 | [],ys,vs,h,hv=>by
  simp[AX] at h; subst h;rw[hv.EL];exact .nil
 | x::xs,ys,vs,h,hv=>by
  simp only[AX] at h;split at h
  .rename_i c cs hc hcs
   simp at h; subst h;obtain⟨u,us,rfl,h1,h2⟩:=hv.cases;exact .cons (H9 hI hk x c u hc h1) (GC hI hk xs cs us hcs h2)
  grind
end
mutual
theorem Sr (n m:Nat):∀x:AV,GO x=true->close [] n m x=some x
 | .pv _,_=>by rfl
 | .ptr _ _,h=>by grind[GO]
 | .DX _ _,_=>by rfl
 | .Cn _ _,_=>by rfl
 | .AA _,_=>by rfl
 | .own _ _,h=>by grind[GO]
 | .ref _ _ _ _,h=>by grind[GO]
 | .func _ a b,h=>by
  simp only[GO,AG] at h;simp[close,Gu n m a h.1,Gu n m b h.2]
 | .iface _ x,h=>by
  simp only[GO] at h;simp[close,Sr n m x h]
 | .agg cs,h=>by
  simp only[GO] at h;simp[close,Gu n m cs h]
 | .tuple cs,h=>by
  simp only[GO] at h;simp[close,Gu n m cs h]
 | .G2,_=>by rfl
 | .FL _,h=>by grind[GO]
 | .K7 _ _,h=>by grind[GO]
 | .bz _ _ _,h=>by grind[GO]
theorem Gu (n m:Nat):∀xs:List AV,Bo xs=true->AX [] n m xs=some xs
 | [],_=>by rfl
 | x::xs,h=>by
  simp only[Bo,AG] at h;simp[AX,Sr n m x h.1,Gu n m xs h.2]
end
theorem JK {n:Nat}:∀{cs:List AV} {i:Nat} {c:AV},Ah n cs=true->cs[i]?=some c->Ar n c=true
 | [],_,_,_,h=>by grind
 | x::xs,0,c,h,hc=>by grind[Ah]
 | x::xs,i+1,c,h,hc=>by
  simp only[Ah,AG] at h;exact JK h.2 (by assumption)
structure Pr (n:Nat) (g' g'':AE):Prop where
 blk:∀id b,id<n->g'.blk id=some b->g''.blk id=some b
 dead:∀id,id<n->g'.dead id->g''.dead id
 tok:∀t l,g'.tok t=some l->g''.tok t=some l
 mp:∀id b,id<n->g'.mp id=some b->g''.mp id=some b
 mono:∀b o,g'.I b o->g''.I b o
theorem V.keep {n:Nat} {g' g'':AE} {w:World} (hk:Pr n g' g'') {x:AV} {v:Value} (h:V g' w x v) (hn:Ar n x=true):V g'' w x v:=by
 induction h with
 | pv h=>exact .pv (h.mono hk.mono λ_ _ _=>rfl)
 | ptr h=>exact .ptr (hk.blk _ _ (by simp_all[Ar]) h)
 | KU h=>exact .KU (hk.dead _ (by simp_all[Ar]) h)
 | DX gl off=>grind[DX]
 | Cn off f h=>exact .Cn off f λj c hj=>⟨hk.mono _ _ (h j c hj).1,(h j c hj).2.1,(h j c hj).2.2.mono hk.mono λ_ _ _=>rfl⟩
 | AA h=>exact .AA (h.mono hk.mono λ_ _ _=>rfl)
 | own h hcap ht hn' hf=>exact .own (h.mono hk.mono λ_ _ _=>rfl) hcap (hk.tok _ _ ht) hn' hf
 | ref h hcap hs hn'=>exact .ref (hk.blk _ _ (by simp_all[Ar]) h) hcap hs hn'
 | Ik h=>exact .Ik (hk.dead _ (by simp_all[Ar]) h)
 | G2=>exact .G2
 | FL h=>exact .FL (hk.mp _ _ (by simp_all[Ar]) h)
 | bz h hs=>exact .bz (hk.blk _ _ (by simp_all[Ar]) h) hs
 | qu h=>exact .qu (hk.dead _ (by simp_all[Ar]) h)
 | func hl hm _ _ ih ik=>
  grind[Ar,func,JK]
 | iface _ ih=>grind[iface,Ar]
 | agg hl _ ih=>grind[agg,JK,Ar]
 | tuple hl _ ih=>grind[tuple,JK,Ar]
theorem VL.keep {n:Nat} {g' g'':AE} {w:World} (hk:Pr n g' g'') {xs:List AV} {vs:List Value} (h:VL g' w xs vs) (hn:Ah n xs=true):VL g'' w xs vs:=
 ⟨h.len,λi c v h1 h2=>(h.at_ i c v h1 h2).keep hk (JK hn h1)⟩
def AE.L3 (g:AE) (I:Nat->Nat->Prop):AE:={ g with I:=I }
theorem Zu {E:Env} {L:A3} {g:AE} {w w':World} {s:AL} {I:Nat->Nat->Prop} (hI:Inv E g w s) (os:w'.os=w.os) (tape:w'.tape=w.tape) (output:w'.output=w.output) (size:w.heap.size<=w'.heap.size)
  (mono:∀b o,g.I b o->I b o) (keep:∀b,b<w.heap.size->w'.heap[b]?=w.heap[b]?/\∀o,I b o->g.I b o) (IG:∀b o,I b o->b<w'.heap.size)
  (Ee:∀gl row,E.G gl=some row->∀j c,row[j]?=some c->∃v,I gl j/\w'.cell? ⟨gl,j,none⟩=some v/\VP I w' c v) (C6:∀gl row,E.G gl=some row->I gl row.length/\w'.cell? ⟨gl,row.length,none⟩=none) :
  Ext L g w (g.L3 I) w'/\Inv E (g.L3 I) w' s:=by
 have ext:Ext L g w (g.L3 I) w':={
  os:=os,tape:=tape,output:=output,size:=size,mono:=mono
  cell:=λb o hi=>B4 (keep b (hI.IG b o hi)).1 o
  blk:=λ_ _ hb=>.inl hb
  dead:=λ_ hd=>hd
  shape:=λ_ b hb _=>C8 (keep b (hI.Dm hb)).1
  tok:=λ_ l hl=>⟨l,hl,.inl rfl⟩
  FE:=λ_ b hb _=>⟨hb,(keep b (hI.Dm hb)).1⟩
  Ez:=λ_ l hl _=>⟨hl,(keep l.b (hI.Ff hl)).1,(keep l.b (hI.Ff hl)).2⟩
  out:=λb hb _ _ _=>keep b hb
  mp:=λ_ _ hb=>hb
  E1:=λ_ b hb=>⟨λ_=>(keep b (hI.JG hb)).1,(keep b (hI.JG hb)).2⟩
  JE:=λid _ hb _=>⟨id,hb⟩
  GV:=λid _ hb _=>⟨id,hb⟩
  JF:=λ_ l hl _=>⟨l,hl,rfl⟩
  C4:=λ_ hp=>hp }
 refine⟨ext,?_⟩
 exact {
  ED:=hI.ED,DH:=hI.DH,DI:=hI.DI,DM:=hI.DM,D3:=hI.D3,Fl:=hI.Fl,Fm:=hI.Fm,EF:=hI.EF,FM:=hI.FM,Cu:=hI.Cu,IG:=IG,Ee:=Ee,C6:=C6,J6:=hI.J6,F3:=hI.F3
  mp:=hI.HZ (λ_ _ _=>rfl) (λ_ b hb=>(keep b (hI.JG hb)).1)
  blk:=λid b hb=>by
   obtain⟨cs,vs,e,h1,h2,h3,h4⟩:=hI.blk id b hb;exact⟨cs,vs,e,h1,(keep b (hI.Dm hb)).1.trans h2,h3,h4.mono ext⟩
  FA:=λid b o hb hi=>hI.FA id b o hb ((keep b (hI.Dm hb)).2 o hi)
  tok:=λt l hl=>by
   obtain⟨vs,e,h1,h2⟩:=hI.tok t l hl
   grind
  F4:=λt l o hl hle hi=>hI.F4 t l o hl hle ((keep l.b (hI.Ff hl)).2 o hi) }
def AE.Jw (g:AE) (n:Nat) (b o:Nat):Prop:=g.I b o\/∃id,n<=id/\g.blk id=some b
theorem Ss {E:Env} {g':AE} {w':World} {s':AL} {I:Nat->Nat->Prop} (hI:Inv E g' w' s') (hm:∀b o,g'.I b o->I b o) :
  ∀gl row,E.G gl=some row->∀j c,row[j]?=some c->∃v,I gl j/\w'.cell? ⟨gl,j,none⟩=some v/\VP I w' c v:=λgl row hr j c hj=>by
 obtain⟨v,h1,h2,h3⟩:=hI.Ee gl row hr j c hj;exact⟨v,hm _ _ h1,h2,h3.mono hm λ_ _ _=>rfl⟩
theorem Pt {E:Env} {g':AE} {w':World} {s':AL} {I:Nat->Nat->Prop} (hI:Inv E g' w' s') (hm:∀b o,g'.I b o->I b o) :
  ∀gl row,E.G gl=some row->I gl row.length/\w'.cell? ⟨gl,row.length,none⟩=none:=λgl row hr=>⟨hm _ _ (hI.C6 gl row hr).1,(hI.C6 gl row hr).2⟩
theorem ACg {E:Env} {L:A3} {g g':AE} {w w':World} {s s':AL} (hI:Inv E g w s) (hx:Ext L g w g' w') (GY:Inv E g' w' s') {id b:Nat} (hid:id<s.bs.length) (hb:g'.blk id=some b):∃b0,g.blk id=some b0/\b0=b:=by
 rcases hI.D3 id hid with ⟨b0,h0⟩|hd|hp|⟨b0,hm⟩
 .rcases hx.blk id b0 h0 with k|k
  .grind
  .rw[g'.hd id k] at hb; grind
 .rw[g'.hd id (hx.dead id hd)] at hb; grind
 .rw[(GY.DM id (hx.C4 id hp)).2.1] at hb; grind
 .rw[(GY.J6 id b0 (hx.mp id b0 hm)).1] at hb; grind
theorem AIv {E:Env} {L:A3} {g g':AE} {w w':World} {s s':AL} (hI:Inv E g w s) (hx:Ext L g w g' w') (GY:Inv E g' w' s') {id:Nat} (hid:id<s.bs.length):id<s'.bs.length:=by
 rcases hI.D3 id hid with ⟨b0,h0⟩|hd|hp|⟨b0,hm⟩
 .rcases hx.blk id b0 h0 with k|k
  .exact GY.ED id b0 k
  .exact GY.DH id k
 .exact GY.DH id (hx.dead id hd)
 .exact(GY.DM id (hx.C4 id hp)).1
 .exact GY.mpN (hx.mp id b0 hm)
theorem AIw {E:Env} {L:A3} {g g':AE} {w w':World} {s s':AL} (hI:Inv E g w s) (hx:Ext L g w g' w') (GY:Inv E g' w' s') {id b:Nat} (hid:id<s.bs.length) (hb:g'.mp id=some b):g.mp id=some b:=by
 obtain⟨x1,x2,x3⟩:=GY.J6 id b hb;rcases hI.D3 id hid with ⟨b0,h0⟩|hd|hp|⟨b0,hm⟩
 .rcases hx.blk id b0 h0 with k|k
  all_goals grind
 .exact absurd (hx.dead id hd) x2
 .exact absurd (hx.C4 id hp) x3
 .rw[hx.mp id b0 hm] at hb
  grind
theorem AIx {E:Env} {L L':A3} {g g':AE} {w w':World} {s s':AL} (hI:Inv E g w s) (hro:L'.ro=s.bs.length) (Eb:L'.rt=s.ts.length) (hx:Ext L' g w g' w') (GY:Inv E g' w' s') :
  Ext L g w (g.L3 (g'.Jw s.bs.length)) w'/\Inv E (g.L3 (g'.Jw s.bs.length)) w' s/\Gt s.bs.length s.ts.length g' (g.L3 (g'.Jw s.bs.length))/\Ob s'.bs s.bs.length g' (g.L3 (g'.Jw s.bs.length)) w':=by
 have hkb:∀id b,g.blk id=some b->g'.blk id=some b/\w'.heap[b]?=w.heap[b]?:=λid b hb=>hx.FE id b hb (by rw[hro]; exact hI.ED id b hb)
 have hkt:∀t l,g.tok t=some l->g'.tok t=some l/\w'.heap[l.b]?=w.heap[l.b]?/\∀o,g'.I l.b o->g.I l.b o:=λt l hl=>hx.Ez t l hl (by
  have:=hI.Fm t l hl
  grind)
 have hmono:∀b o,g'.I b o->g'.Jw s.bs.length b o:=λ_ _ h=>.inl h
 have keep:∀b,b<w.heap.size->w'.heap[b]?=w.heap[b]?/\∀o,g'.Jw s.bs.length b o->g.I b o:=λb hb=>by
  by_cases h1:∃id,g.blk id=some b
  .obtain⟨id,h1⟩:=h1
   obtain⟨a1,a2⟩:=hkb id b h1;refine⟨a2,λo ho=>?_⟩;rcases ho with ho|⟨id',h2,h3⟩
   .exact absurd ho (GY.FA id b o a1)
   .have:=GY.EF id id' b a1 h3
    have:=hI.ED id b h1;omega
  .have Zn:∀id,g.blk id≠some b:=λid e=>h1 ⟨id,e⟩
   have hno:∀id',g'.blk id'≠some b:=λid' h3=>by
    obtain⟨E9,h4⟩:=hx.GV id' b h3 hb
    grind
   by_cases hm:∃id,g.mp id=some b
   .obtain⟨id,hm⟩:=hm
    obtain⟨a1,a2⟩:=hx.E1 id b hm;refine⟨a1 (by rw[hro]; exact hI.mpN hm),λo ho=>?_⟩;rcases ho with ho|⟨id',_,h3⟩
    all_goals grind
   have hm':∀id,g.mp id≠some b:=λid e=>hm ⟨id,e⟩
   by_cases h2:∃t l,g.tok t=some l/\l.b=b
   .obtain⟨t,l,h2,rfl⟩:=h2
    obtain⟨_,a2,a3⟩:=hkt t l h2;refine⟨a2,λo ho=>?_⟩;rcases ho with ho|⟨id',_,h3⟩
    all_goals grind
   .obtain⟨a1,a2⟩:=hx.out b hb Zn (λt l hl e=>h2 ⟨t,l,hl,e⟩) hm'
    refine⟨a1,λo ho=>?_⟩;rcases ho with ho|⟨id',_,h3⟩
    all_goals grind
 have AIy:∀b o,g'.Jw s.bs.length b o->b<w'.heap.size:=λb o ho=>by
  rcases ho with ho|⟨id',_,h3⟩
  .exact GY.IG b o ho
  .exact GY.Dm h3
 obtain⟨r1,r2⟩:=Zu (L:=L) hI hx.os hx.tape hx.output hx.size (λb o h=>hmono b o (hx.mono b o h)) keep AIy (Ss GY hmono) (Pt GY hmono);refine⟨r1,r2,⟨λid b hid hb=>?_,λid hid hd=>?_,λt l ht hl=>?_,λid b hid hb=>AIw hI hx GY hid hb,hmono⟩,KA GY hmono λid b o hid hb=>.inr ⟨id,hid,hb⟩⟩
 .obtain⟨b0,h0,rfl⟩:=ACg hI hx GY hid hb
  exact h0
 .rcases hI.D3 id hid with ⟨b0,h0⟩|hd' | hp|⟨b0,hm⟩
  .have:=(hkb id b0 h0).1
   rw[g'.hd id hd] at this; grind
  .exact hd'
  .exact absurd hd (GY.DM id (hx.C4 id hp)).2.2
  .exact absurd hd (GY.J6 id b0 (hx.mp id b0 hm)).2.1
 .have hs:s.ts[t]?=some (s.ts[t].1,s.ts[t].2):=by grind
  obtain⟨l0,h0,_⟩:=hI.Fl t _ _ hs;have:=(hkt t l0 h0).1;rw[hl] at this; simp at this; subst this;exact h0
def AE.bare (I:Nat->Nat->Prop):AE:=⟨λ_=>none,λ_=>False,λ_=>False,λ_=>none,λ_=>none,I,λ_ h=>h.elim⟩
theorem Inv.bare {E:Env} {g:AE} {w:World} {s:AL} (h:Inv E g w s):Inv E (AE.bare g.I) w ⟨[],[]⟩ where
 ED:=λ_ _ h=>by grind[AE.bare]
 DH:=λ_ h=>by grind[AE.bare]
 blk:=λ_ _ h=>by grind[AE.bare]
 FA:=λ_ _ _ h=>by grind[AE.bare]
 DI:=λ_ h=>by grind[AE.bare]
 DM:=λ_ h=>by grind[AE.bare]
 D3:=λ_ h=>by grind
 mp:=λ_ _ h=>by grind[AE.bare]
 J6:=λ_ _ h=>by grind[AE.bare]
 F3:=λ_ _ _ h=>by grind[AE.bare]
 Fl:=λ_ _ _ h=>by grind
 Fm:=λ_ _ h=>by grind[AE.bare]
 tok:=λ_ _ h=>by grind[AE.bare]
 F4:=λ_ _ _ h=>by grind[AE.bare]
 EF:=λ_ _ _ h=>by grind[AE.bare]
 FM:=λ_ _ _ _ h=>by grind[AE.bare]
 Cu:=λ_ _ _ _ h=>by grind[AE.bare]
 IG:=h.IG
 Ee:=h.Ee
 C6:=h.C6
theorem Gt.bare {g:AE}:Gt 0 0 g (AE.bare g.I):=⟨λ_ _ h=>absurd h (Ji _),λ_ h=>absurd h (Ji _),λ_ _ h=>absurd h (Ji _),λ_ _ h=>absurd h (Ji _),λ_ _ h=>h⟩
theorem su {E:Env} {L L':A3} {g g':AE} {w w':World} {s s':AL} (hI:Inv E g w s) (hx:Ext L' (AE.bare g.I) w g' w') (GY:Inv E g' w' s') :
  Ext L g w (g.L3 (g'.Jw 0)) w'/\Inv E (g.L3 (g'.Jw 0)) w' s/\Gt 0 0 g' (g.L3 (g'.Jw 0))/\Ob s'.bs 0 g' (g.L3 (g'.Jw 0)) w':=by
 have hmono:∀b o,g'.I b o->g'.Jw 0 b o:=λ_ _ h=>.inl h
 have keep:∀b,b<w.heap.size->w'.heap[b]?=w.heap[b]?/\∀o,g'.Jw 0 b o->g.I b o:=λb hb=>by
  obtain⟨a1,a2⟩:=hx.out b hb (λ_ e=>by grind[AE.bare]) (λ_ _ e=>by grind[AE.bare]) (λ_ e=>by grind[AE.bare]);refine⟨a1,λo ho=>?_⟩;rcases ho with ho|⟨id',_,h3⟩
  .exact a2 o ho
  .obtain⟨E9,h4⟩:=hx.GV id' b h3 hb
   grind[AE.bare]
 have AIy:∀b o,g'.Jw 0 b o->b<w'.heap.size:=λb o ho=>by
  rcases ho with ho|⟨id',_,h3⟩
  .exact GY.IG b o ho
  .exact GY.Dm h3
 obtain⟨r1,r2⟩:=Zu (L:=L) hI hx.os hx.tape hx.output hx.size (λb o h=>hmono b o (hx.mono b o h)) keep AIy (Ss GY hmono) (Pt GY hmono);exact⟨r1,r2,⟨λ_ _ h=>absurd h (Ji _),λ_ h=>absurd h (Ji _),λ_ _ h=>absurd h (Ji _),λ_ _ h=>absurd h (Ji _),hmono⟩,KA GY hmono λid b o hid hb=>.inr ⟨id,hid,hb⟩⟩
def AE.cut (g:AE) (n:Nat) (r:Option Nat):AE where
 blk id:=if id<n then g.blk id else if id=n then r.bind g.blk else none
 dead id:=id<n/\g.dead id
 C4 id:=id<n/\g.C4 id
 tok:=g.tok
 mp id:=if id<n then g.mp id else none
 I b o:=g.I b o\/∃id,n<=id/\r≠some id/\g.blk id=some b
 hd id h:=by simp[h.1,g.hd id h.2]
theorem Ip {g:AE} {n:Nat} {r:Option Nat} {id b:Nat} (h:(g.cut n r).blk id=some b):(id<n/\g.blk id=some b)\/(id=n/\∃E9,r=some E9/\g.blk E9=some b):=by
 simp only[AE.cut] at h;split at h
 .grind
 .split at h
  .rename_i hid
   cases r with
   | none=>grind
   | some E9=>grind
  grind
theorem Oc {g:AE} {n:Nat} {r:Option Nat} {id b:Nat} (hid:id<n) (h:g.blk id=some b):(g.cut n r).blk id=some b:=by grind[AE.cut]
theorem Su {g:AE} {n:Nat} {r:Option Nat} {id b:Nat} (h:(g.cut n r).mp id=some b):id<n/\g.mp id=some b:=by grind[AE.cut]
theorem Od {g:AE} {n:Nat} {r:Option Nat} {id b:Nat} (hid:id<n) (h:g.mp id=some b):(g.cut n r).mp id=some b:=by grind[AE.cut]
theorem Pr.cut {g:AE} {n:Nat} {r:Option Nat}:Pr n g (g.cut n r):=
 ⟨λ_ _ hid hb=>Oc hid hb,λ_ hid hd=>⟨hid,hd⟩,λ_ _ h=>h,λ_ _ hid hb=>Od hid hb,λ_ _ h=>.inl h⟩
def U6 (s:AL) (n:Nat) (r:Option Nat):AL:=⟨s.bs.take n++(match r with|none=>[]|some id=>(s.bs[id]?).toList),s.ts⟩
theorem sw {E:Env} {L L':A3} {g g':AE} {w w':World} {s s':AL} {r:Option Nat} (hI:Inv E g w s) (hro:L'.ro=L.ro) (Eb:L'.rt=L.rt) (hx:Ext L' g w g' w') (GY:Inv E g' w' s')
  (oK:(s'.bs.take s.bs.length).all (Ah s.bs.length)=true)
  (hr:∀id,r=some id->s.bs.length<=id/\(∃b,g'.blk id=some b)/\∀cs,s'.bs[id]?=some cs->Ah s.bs.length cs=true) :
  Ext L g w (g'.cut s.bs.length r) w'/\Inv E (g'.cut s.bs.length r) w' (U6 s' s.bs.length r):=by
 have hle:s.bs.length<=s'.bs.length:=by
  rcases FX 0 s.bs.length with k|k
  .have:=AIv hI hx GY (id:=s.bs.length-1) (by omega); omega
  omega
 have rD:(s'.bs.take s.bs.length).length=s.bs.length:=by grind
 have hbN:∀id b,g.blk id=some b->id<s.bs.length:=hI.ED
 have hno:∀b o,(∀id,g'.blk id=some b->id<s.bs.length)->(g'.cut s.bs.length r).I b o->g'.I b o:=λb o h hi=>by
  rcases hi with hi|⟨id,h1,_,h3⟩
  all_goals grind
 have get:∀id,id<s.bs.length->(U6 s' s.bs.length r).bs[id]?=s'.bs[id]?:=λid hid=>by simp[*,U6,CZ]
 have ids:∀id cs,id<s.bs.length->s'.bs[id]?=some cs->Ah s.bs.length cs=true:=λid cs hid hcs=>by
  rw[C2] at oK;refine oK cs (A5 (i:=id) ?_)
  grind
 have ext:Ext L g w (g'.cut s.bs.length r) w':={
  os:=hx.os,tape:=hx.tape,output:=hx.output,size:=hx.size
  mono:=λb o hi=>.inl (hx.mono b o hi)
  cell:=hx.cell
  blk:=λid b hb=>by
   rcases hx.blk id b hb with k|k
   .grind[Oc]
   .exact .inr ⟨hbN id b hb,k⟩
  dead:=λid hd=>⟨hI.DH id hd,hx.dead id hd⟩
  shape:=λid b hb hb'=>by
   rcases Ip hb' with ⟨_,k⟩|⟨k,_⟩
   .exact hx.shape id b hb k
   grind
  tok:=hx.tok
  FE:=λid b hb hlt=>by
   obtain⟨a1,a2⟩:=hx.FE id b hb (by omega)
   grind[Oc]
  Ez:=λt l hl hlt=>by
   obtain⟨a1,a2,a3⟩:=hx.Ez t l hl (by omega);refine⟨a1,a2,λo ho=>a3 o ?_⟩;rcases ho with ho|⟨id,_,_,h3⟩
   .omega
   .exact absurd rfl (GY.Cu id l.b t l h3 a1)
  mp:=λid b hb=>Od (hI.mpN hb) (hx.mp id b hb)
  E1:=λid b hb=>by
   obtain⟨a1,a2⟩:=hx.E1 id b hb;refine⟨λhlt=>a1 (by omega),λo ho=>a2 o ?_⟩;rcases ho with ho|⟨id',_,_,h3⟩
   .omega
   .exact absurd h3 (GY.mpB (hx.mp id b hb))
  JE:=λid b hb hlt=>hx.JE id b (Su hb).2 hlt
  out:=λb hb h1 h2 h3=>by
   obtain⟨a1,a2⟩:=hx.out b hb h1 h2 h3;refine⟨a1,λo ho=>a2 o ?_⟩;rcases ho with ho|⟨id,_,_,h3⟩
   .omega
   .obtain⟨E9,h4⟩:=hx.GV id b h3 hb
    grind
  GV:=λid b hb hlt=>by
   rcases Ip hb with ⟨_,k⟩|⟨_,E9,_,k⟩
   .exact hx.GV id b k hlt
   .exact hx.GV E9 b k hlt
  JF:=hx.JF
  C4:=λid hp=>⟨(hI.DM id hp).1,hx.C4 id hp⟩ }
 have AEi:∀E9,r=some E9->∃cs,s'.bs[E9]?=some cs/\(U6 s' s.bs.length r).bs[s.bs.length]?=some cs/\(U6 s' s.bs.length r).bs.length=s.bs.length+1:=λE9 e=>by
  obtain⟨_,⟨b,hb⟩,_⟩:=hr E9 e;have hlt:=GY.ED E9 b hb;simp[*,U6]
 have hlen:s.bs.length<=(U6 s' s.bs.length r).bs.length:=by grind
 refine⟨ext,?_⟩
 exact {
  ED:=λid b hb=>by
   rcases Ip hb with ⟨k,_⟩|⟨rfl,E9,e,_⟩
   all_goals grind
  DH:=λid hd=>by have:=hd.1; omega
  blk:=λid b hb=>by
   rcases Ip hb with ⟨k,hb⟩|⟨rfl,E9,e,hb⟩
   .obtain⟨cs,vs,e,h1,h2,h3,h4⟩:=GY.blk id b hb
    exact⟨cs,vs,e,(get id k).trans h1,h2,h3,h4.keep Pr.cut (ids id cs k h1)⟩
   .obtain⟨cs,vs,e',h1,h2,h3,h4⟩:=GY.blk E9 b hb
    obtain⟨cs',k1,k2,_⟩:=AEi E9 e;rw[h1] at k1; simp at k1; subst k1;exact⟨cs,vs,e',k2,h2,h3,h4.keep Pr.cut ((hr E9 e).2.2 cs h1)⟩
  FA:=λid b o hb hi=>by
   rcases Ip hb with ⟨k,hb⟩|⟨rfl,E9,e,hb⟩
   .rcases hi with hi|⟨id',h1,_,h3⟩
    .exact GY.FA id b o hb hi
    .have:=GY.EF id id' b hb h3; omega
   .rcases hi with hi|⟨id',h1,h2,h3⟩
    .exact GY.FA E9 b o hb hi
    .have:=GY.EF E9 id' b hb h3
     grind
  DI:=λid hd=>(get id hd.1).trans (GY.DI id hd.2)
  DM:=λid hp=>by
   obtain⟨a,b,c⟩:=GY.DM id hp.2
   grind[AE.cut]
  D3:=λid hid=>by
   by_cases k:id<s.bs.length
   .rcases GY.D3 id (by omega) with ⟨b,hb⟩|hd|hp|⟨b,hm⟩
    .grind[Oc]
    .exact .inr (.inl ⟨k,hd⟩)
    .exact .inr (.inr (.inl ⟨k,hp⟩))
    grind[Od]
   .cases e:r with
    | none=>
     grind[U6]
    | some E9=>
     obtain⟨_,_,_,h3⟩:=AEi E9 e;rw[h3] at hid;have:id=s.bs.length:=by omega
     simp[*,AE.cut]
  mp:=λid b hb=>by
   obtain⟨k,hm⟩:=Su hb;obtain⟨es,c,h1,h2⟩:=GY.mp id b hm
   grind
  J6:=λid b hb=>by
   obtain⟨k,hm⟩:=Su hb;obtain⟨a1,a2,a3⟩:=GY.J6 id b hm
   grind[AE.cut]
  F3:=λid id' b hb hb'=>GY.F3 id id' b (Su hb).2 (Su hb').2
  Fl:=GY.Fl
  Fm:=GY.Fm
  tok:=GY.tok
  F4:=λt l o hl hle hi=>by
   rcases hi with hi|⟨id',_,_,h3⟩
   .exact GY.F4 t l o hl hle hi
   .exact absurd rfl (GY.Cu id' l.b t l h3 hl)
  EF:=λid id' b hb hb'=>by
   rcases Ip hb with ⟨k,hb⟩|⟨rfl,E9,e,hb⟩
   .rcases Ip hb' with ⟨k',hb'⟩|⟨rfl,E9,e,hb'⟩
    .exact GY.EF id id' b hb hb'
    .have:=GY.EF id E9 b hb hb'
     grind
   .rcases Ip hb' with ⟨k',hb'⟩|⟨rfl,_⟩
    .have:=GY.EF id' E9 b hb' hb
     grind
    rfl
  FM:=GY.FM
  Cu:=λid b t l hb hl=>by
   rcases Ip hb with ⟨_,hb⟩|⟨_,E9,_,hb⟩
   .exact GY.Cu id b t l hb hl
   .exact GY.Cu E9 b t l hb hl
  IG:=λb o hi=>by
   rcases hi with hi|⟨id,_,_,h3⟩
   .exact GY.IG b o hi
   .exact GY.Dm h3
  Ee:=Ss GY λ_ _ h=>.inl h
  C6:=Pt GY λ_ _ h=>.inl h }
theorem Zv {E:Env} {L L':A3} {g g':AE} {w w':World} {s s' s'':AL} {r:Bool} {v x:AV} {u:Value} (hI:Inv E g w s) (hro:L'.ro=L.ro) (Eb:L'.rt=L.rt) (hx:Ext L' g w g' w') (GY:Inv E g' w' s')
  (hv:V g' w' x u) (h:HR r s.bs.length x s'=some (v,s'')):∃g'',V g'' w' v u/\Ext L g w g'' w'/\Inv E g'' w' s'':=by
 unfold HR at h;cases oK:(s'.bs.take s.bs.length).all (Ah s.bs.length) with
 | false=>grind
 | true=>
  rw[oK] at h;simp only[AN] at h;split at h
  .rename_i id off len sz hnr
   unfold HX at hnr;split at hnr
   .rename_i id' off' len' sz'
    cases hc:(r&&Nat.ble s.bs.length id') with
    | false=>grind
    | true=>
     rw[hc] at hnr;simp at hnr;obtain⟨rfl,rfl,rfl,rfl⟩:=hnr;simp at hc;split at h
     .rename_i c cs hcs
      cases hl:Ah s.bs.length (c::cs) with
      | false=>grind
      | true=>
       rw[hl] at h;simp only[AN,Au,A0] at h;obtain⟨rfl,rfl⟩:=h;cases hv with
       | Ik hd=>have:=GY.DI _ hd; grind
       | @ref _ _ _ _ b cap n e H8 hcap hs hn=>
        obtain⟨r1,r2⟩:=sw (L:=L) (r:=some id') hI hro Eb hx GY oK (λid e=>by grind);refine⟨_,?_,r1,?_⟩
        .exact .ref (by grind[AE.cut]) hcap hs hn
        grind[U6]
     grind
   grind
  .split at h
   .rename_i y hy
    simp only[Au,A0] at h;obtain⟨rfl,rfl⟩:=h;obtain⟨r1,r2⟩:=sw (L:=L) (r:=none) hI hro Eb hx GY oK (λid e=>by grind);refine⟨_,?_,r1,?_⟩
    .have hk:Gt s.bs.length s'.ts.length g' (g'.cut s.bs.length none):=⟨λ_ _ a b=>Oc a b,λ_ a b=>⟨a,b⟩,λ_ _ _ h=>h,λ_ _ a b=>Od a b,λ_ _ h=>.inl h⟩
     have ho:Ob s'.bs s.bs.length g' (g'.cut s.bs.length none) w':=KA GY hk.mono λid b o h1 h2=>Or.inr ⟨id,h1,by simp,h2⟩
     grind[H9]
    grind[U6]
   grind
end Go.Tel
