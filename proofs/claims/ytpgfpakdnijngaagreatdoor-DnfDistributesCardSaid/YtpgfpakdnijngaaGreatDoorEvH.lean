/-
  Returns, part 1: what a value is for one who keeps only the first blocks and tokens.
-/
import Derived.Test.YtpgfpakdnijngaaGreatDoorEvG
set_option linter.unusedSimpArgs false
set_option linter.unusedVariables false
namespace Go.Tel
structure G7 (n m:Nat) (g' g'':AH):Prop where
 blk:∀ id b,id<n->g'.blk id=some b->g''.blk id=some b
 dead:∀ id,id<n->g'.dead id->g''.dead id
 tok:∀ t l,t<m->g'.tok t=some l->g''.tok t=some l
 mp:∀ id b,id<n->g'.mp id=some b->g''.mp id=some b
 mono:∀ b o,g'.I b o->g''.I b o
def Om (bs:List (List AV)) (n:Nat) (g' g'':AH) (w:World):Prop:=
 ∀ id off len sz rows v,n<=id->V g' w (.ref id off len sz) v->I4 bs id off len sz=some rows->VP g''.I w (.list rows) v
theorem Om.nil {n:Nat} {g' g'':AH} {w:World}:Om [] n g' g'' w:=fun _ _ _ _ _ _ _ _ h=>by simp[I4] at h
theorem KP {E:Env} {g' g'':AH} {w:World} {s:AK} {n:Nat} (hI:Inv E g' w s) (hmono:∀ b o,g'.I b o->g''.I b o) (iR:∀ id b o,n<=id->g'.blk id=some b->g''.I b o):Om s.bs n g' g'' w:=by
 intro id off len sz rows v hn hv h;unfold I4 at h;split at h
 ·rename_i cs hcs
  split at h
  ·rename_i hc
   split at h
   ·rename_i ps hps
    simp at h; subst h;cases hv with
    | I8 hd=>
     have:=hI.DM id hd;rw[hcs] at this; simp at this; subst this;simp at hc
    | @ref _ _ _ _ b cap nn e F2 hcap hs cq=>
     obtain⟨cs',vs,e',k1,k2,wM,k3⟩:=hI.blk id b F2;rw[hcs] at k1; simp at k1; subst k1;have hvl:=(k3.drop off).take (len*sz);obtain⟨q1,q2⟩:=G3 hvl hps;have cn:(((vs.take cs.length).drop off).take (len*sz)).length=len*sz:=by simp; omega
     have hfl:Flat g'.I w (B6 sz len ps) sz (((vs.take cs.length).drop off).take (len*sz)):=IY cn q1 q2;have ANp:Flat g''.I w (B6 sz len ps) sz (((vs.take cs.length).drop off).take (len*sz)):=hfl.mono hmono (fun _ _ _=>rfl)
     have wN:=ANp.dF (b:=b) (o:=off) (fun q _=>iR id b _ hn F2) (fun q u hq=>by
      rw[Bd k2];rw[CT] at hq;split at hq
      ·rw[GM,CT] at hq
       split at hq
       ·exact hq
       ·simp at hq
      ·simp at hq)
     have:=VP.IP (cap:=cap) wN (by rw[EF]; exact hcap);rw[EF] at this;exact this
   ·simp at h
  ·simp at h
 ·simp at h
mutual
theorem IZ {g' g'':AH} {w:World} {bs:List (List AV)} {n m:Nat} (hI:Om bs n g' g'' w) (hk:G7 n m g' g''):∀ (x y:AV) (v:Value),close bs n m x=some y->V g' w x v->V g'' w y v
 | .pv p,y,v,h,hv=>by
  simp[close] at h; subst h;cases hv with|pv hv=>exact .pv (hv.mono hk.mono fun _ _ _=>rfl)
 | .ptr id off,y,v,h,hv=>by
  simp only[close] at h;split at h
  ·rename_i hid
   simp at h; subst h;cases hv with
   | ptr hb=>exact .ptr (hk.blk _ _ hid hb)
   | Ki hd=>exact .Ki (hk.dead _ hid hd)
  ·simp at h
 | .De gl off,y,v,h,hv=>by
  simp[close] at h; subst h;cases hv with|De=>exact .De _ _
 | .DK row off,y,v,h,hv=>by
  simp[close] at h; subst h;cases hv with
  | DK _ f hr=>exact .DK _ f fun j c hj=>⟨hk.mono _ _ (hr j c hj).1,(hr j c hj).2.1,(hr j c hj).2.2.mono hk.mono fun _ _ _=>rfl⟩
 | .AA rows,y,v,h,hv=>by
  simp[close] at h; subst h;cases hv with|AA hr=>exact .AA (hr.mono hk.mono fun _ _ _=>rfl)
 | .own t rows,y,v,h,hv=>by
  simp only[close] at h;split at h
  ·rename_i ht
   simp at h; subst h;cases hv with|own hr hcap RL hn hf=>exact .own (hr.mono hk.mono fun _ _ _=>rfl) hcap (hk.tok _ _ ht RL) hn hf
  ·simp at h; subst h
   cases hv with|own hr hcap RL hn hf=>exact .pv (VP.IP (hr.mono hk.mono fun _ _ _=>rfl) hcap)
 | .ref id off len sz,y,v,h,hv=>by
  simp only[close] at h;split at h
  ·rename_i hid
   simp at h; subst h;cases hv with
   | ref hb hcap hs hn=>exact .ref (hk.blk _ _ hid hb) hcap hs hn
   | I8 hd=>exact .I8 (hk.dead _ hid hd)
  ·rename_i hid
   split at h
   ·rename_i rows hr
    simp at h; subst h;exact .pv (hI _ _ _ _ _ _ (by omega) hv hr)
   ·simp at h
 | .func fn a b,y,v,h,hv=>by
  simp only[close] at h;split at h
  ·rename_i a' b' ha hb
   simp at h; subst h;obtain⟨vs,us,rfl,h1,h2⟩:=hv.SW;have k1:=Gc hI hk a a' vs ha h1;have k2:=Gc hI hk b b' us hb h2;exact .func k1.len k2.len k1.at_ k2.at_
  ·simp at h
 | .iface t x,y,v,h,hv=>by
  simp only[close] at h;split at h
  ·rename_i x' hx
   simp at h; subst h;cases hv with|iface hv=>exact .iface (IZ hI hk x x' _ hx hv)
  ·simp at h
 | .agg cs,y,v,h,hv=>by
  simp only[close] at h;split at h
  ·rename_i cs' hx
   simp at h; subst h;obtain⟨vs,rfl,h1⟩:=hv.Rp;exact V.lJ (Gc hI hk cs cs' vs hx h1)
  ·simp at h
 | .tuple cs,y,v,h,hv=>by
  simp only[close] at h;split at h
  ·rename_i cs' hx
   simp at h; subst h;obtain⟨vs,rfl,h1⟩:=hv.Pg;exact V.tuple' (Gc hI hk cs cs' vs hx h1)
  ·simp at h
 | .HU,y,v,h,hv=>by
  simp[close] at h; subst h;cases hv with|HU=>exact .HU
 | .Fg id,y,v,h,hv=>by
  simp only[close] at h;split at h
  ·rename_i hid
   simp at h; subst h;cases hv with|Fg hb=>exact .Fg (hk.mp _ _ hid hb)
  ·simp at h
 | .LD _ _,y,v,h,hv=>by simp[close] at h
 | .bz id t k,y,v,h,hv=>by
  simp only[close] at h;split at h
  ·rename_i hid
   simp at h; subst h;cases hv with
   | bz hb hs=>exact .bz (hk.blk _ _ hid hb) hs
   | nQ hd=>exact .nQ (hk.dead _ hid hd)
  ·simp at h
theorem Gc {g' g'':AH} {w:World} {bs:List (List AV)} {n m:Nat} (hI:Om bs n g' g'' w) (hk:G7 n m g' g''):∀ (xs ys:List AV) (vs:List Value),AN bs n m xs=some ys->VL g' w xs vs->VL g'' w ys vs
 | [],ys,vs,h,hv=>by
  simp[AN] at h; subst h;rw[hv.Ee];exact .nil
 | x::xs,ys,vs,h,hv=>by
  simp only[AN] at h;split at h
  ·rename_i c cs hc hcs
   simp at h; subst h;obtain⟨u,us,rfl,h1,h2⟩:=hv.cases;exact .cons (IZ hI hk x c u hc h1) (Gc hI hk xs cs us hcs h2)
  ·simp at h
end
mutual
theorem Sg (n m:Nat):∀ x:AV,Dl x=true->close [] n m x=some x
 | .pv _,_=>by simp[close]
 | .ptr _ _,h=>by simp[Dl] at h
 | .De _ _,_=>by simp[close]
 | .DK _ _,_=>by simp[close]
 | .AA _,_=>by simp[close]
 | .own _ _,h=>by simp[Dl] at h
 | .ref _ _ _ _,h=>by simp[Dl] at h
 | .func _ a b,h=>by
  simp only[Dl,AG] at h;simp[close,G8 n m a h.1,G8 n m b h.2]
 | .iface _ x,h=>by
  simp only[Dl] at h;simp[close,Sg n m x h]
 | .agg cs,h=>by
  simp only[Dl] at h;simp[close,G8 n m cs h]
 | .tuple cs,h=>by
  simp only[Dl] at h;simp[close,G8 n m cs h]
 | .HU,_=>by simp[close]
 | .Fg _,h=>by simp[Dl] at h
 | .LD _ _,h=>by simp[Dl] at h
 | .bz _ _ _,h=>by simp[Dl] at h
theorem G8 (n m:Nat):∀ xs:List AV,BN xs=true->AN [] n m xs=some xs
 | [],_=>by simp[AN]
 | x::xs,h=>by
  simp only[BN,AG] at h;simp[AN,Sg n m x h.1,G8 n m xs h.2]
end
theorem Ht {n:Nat}:∀ {cs:List AV} {i:Nat} {c:AV},AU n cs=true->cs[i]?=some c->Aa n c=true
 | [],_,_,_,h=>by simp at h
 | x::xs,0,c,h,hc=>by
  simp only[AU,AG] at h;simp at hc; subst hc; exact h.1
 | x::xs,i+1,c,h,hc=>by
  simp only[AU,AG] at h;exact Ht h.2 (by simpa using hc)
structure Py (n:Nat) (g' g'':AH):Prop where
 blk:∀ id b,id<n->g'.blk id=some b->g''.blk id=some b
 dead:∀ id,id<n->g'.dead id->g''.dead id
 tok:∀ t l,g'.tok t=some l->g''.tok t=some l
 mp:∀ id b,id<n->g'.mp id=some b->g''.mp id=some b
 mono:∀ b o,g'.I b o->g''.I b o
theorem V.keep {n:Nat} {g' g'':AH} {w:World} (hk:Py n g' g'') {x:AV} {v:Value} (h:V g' w x v) (hn:Aa n x=true):V g'' w x v:=by
 induction h with
 | pv h=>exact .pv (h.mono hk.mono fun _ _ _=>rfl)
 | ptr h=>exact .ptr (hk.blk _ _ (by simpa[Aa] using hn) h)
 | Ki h=>exact .Ki (hk.dead _ (by simpa[Aa] using hn) h)
 | De gl off=>exact .De gl off
 | DK off f h=>exact .DK off f fun j c hj=>⟨hk.mono _ _ (h j c hj).1,(h j c hj).2.1,(h j c hj).2.2.mono hk.mono fun _ _ _=>rfl⟩
 | AA h=>exact .AA (h.mono hk.mono fun _ _ _=>rfl)
 | own h hcap ht hn' hf=>exact .own (h.mono hk.mono fun _ _ _=>rfl) hcap (hk.tok _ _ ht) hn' hf
 | ref h hcap hs hn'=>exact .ref (hk.blk _ _ (by simpa[Aa] using hn) h) hcap hs hn'
 | I8 h=>exact .I8 (hk.dead _ (by simpa[Aa] using hn) h)
 | HU=>exact .HU
 | Fg h=>exact .Fg (hk.mp _ _ (by simpa[Aa] using hn) h)
 | bz h hs=>exact .bz (hk.blk _ _ (by simpa[Aa] using hn) h) hs
 | nQ h=>exact .nQ (hk.dead _ (by simpa[Aa] using hn) h)
 | func hl hm _ _ ih ik=>
  simp only[Aa,AG] at hn;exact .func hl hm (fun i c v h1 h2=>ih i c v h1 h2 (Ht hn.1 h1)) (fun i c v h1 h2=>ik i c v h1 h2 (Ht hn.2 h1))
 | iface _ ih=>exact .iface (ih (by simpa[Aa] using hn))
 | agg hl _ ih=>exact .agg hl fun i c v h1 h2=>ih i c v h1 h2 (Ht (by simpa[Aa] using hn) h1)
 | tuple hl _ ih=>exact .tuple hl fun i c v h1 h2=>ih i c v h1 h2 (Ht (by simpa[Aa] using hn) h1)
theorem VL.keep {n:Nat} {g' g'':AH} {w:World} (hk:Py n g' g'') {xs:List AV} {vs:List Value} (h:VL g' w xs vs) (hn:AU n xs=true):VL g'' w xs vs:=
 ⟨h.len,fun i c v h1 h2=>(h.at_ i c v h1 h2).keep hk (Ht hn h1)⟩
def AH.MH (g:AH) (I:Nat->Nat->Prop):AH:={ g with I:=I }
theorem ZY {E:Env} {L:A0} {g:AH} {w w':World} {s:AK} {I:Nat->Nat->Prop} (hI:Inv E g w s) (os:w'.os=w.os) (tape:w'.tape=w.tape) (output:w'.output=w.output) (size:w.heap.size<=w'.heap.size)
  (mono:∀ b o,g.I b o->I b o) (keep:∀ b,b<w.heap.size->w'.heap[b]?=w.heap[b]?/\∀ o,I b o->g.I b o) (Il:∀ b o,I b o->b<w'.heap.size)
  (Ey:∀ gl row,E.G gl=some row->∀ j c,row[j]?=some c->∃ v,I gl j/\w'.cell? ⟨gl,j,none⟩=some v/\VP I w' c v) (C3:∀ gl row,E.G gl=some row->I gl row.length/\w'.cell? ⟨gl,row.length,none⟩=none) :
  Ext L g w (g.MH I) w'/\Inv E (g.MH I) w' s:=by
 have ext:Ext L g w (g.MH I) w':={
  os:=os,tape:=tape,output:=output,size:=size,mono:=mono
  cell:=fun b o hi=>Bn (keep b (hI.Il b o hi)).1 o
  blk:=fun _ _ hb=>.inl hb
  dead:=fun _ hd=>hd
  shape:=fun _ b hb _=>DC (keep b (hI.C4 hb)).1
  tok:=fun _ l hl=>⟨l,hl,.inl rfl⟩
  Fa:=fun _ b hb _=>⟨hb,(keep b (hI.C4 hb)).1⟩
  FI:=fun _ l hl _=>⟨hl,(keep l.b (hI.EE hl)).1,(keep l.b (hI.EE hl)).2⟩
  out:=fun b hb _ _ _=>keep b hb
  mp:=fun _ _ hb=>hb
  FJ:=fun _ b hb=>⟨fun _=>(keep b (hI.I9 hb)).1,(keep b (hI.I9 hb)).2⟩
  JT:=fun id _ hb _=>⟨id,hb⟩
  Gk:=fun id _ hb _=>⟨id,hb⟩
  JU:=fun _ l hl _=>⟨l,hl,rfl⟩
  C1:=fun _ hp=>hp }
 refine⟨ext,?_⟩
 exact {
  EB:=hI.EB,DL:=hI.DL,DM:=hI.DM,DV:=hI.DV,EG:=hI.EG,F6:=hI.F6,F7:=hI.F7,ET:=hI.ET,Fi:=hI.Fi,Cp:=hI.Cp,Il:=Il,Ey:=Ey,C3:=C3,KM:=hI.KM,GU:=hI.GU
  mp:=hI.Hj (fun _ _ _=>rfl) (fun _ b hb=>(keep b (hI.I9 hb)).1)
  blk:=fun id b hb=>by
   obtain⟨cs,vs,e,h1,h2,h3,h4⟩:=hI.blk id b hb;exact⟨cs,vs,e,h1,(keep b (hI.C4 hb)).1.trans h2,h3,h4.mono ext⟩
  FT:=fun id b o hb hi=>hI.FT id b o hb ((keep b (hI.C4 hb)).2 o hi)
  tok:=fun t l hl=>by
   obtain⟨vs,e,h1,h2⟩:=hI.tok t l hl;exact⟨vs,e,(keep l.b (hI.EE hl)).1.trans h1,h2⟩
  GV:=fun t l o hl hle hi=>hI.GV t l o hl hle ((keep l.b (hI.EE hl)).2 o hi) }
def AH.KD (g:AH) (n:Nat) (b o:Nat):Prop:=g.I b o\/∃ id,n<=id/\g.blk id=some b
theorem Sh {E:Env} {g':AH} {w':World} {s':AK} {I:Nat->Nat->Prop} (hI:Inv E g' w' s') (hm:∀ b o,g'.I b o->I b o) :
  ∀ gl row,E.G gl=some row->∀ j c,row[j]?=some c->∃ v,I gl j/\w'.cell? ⟨gl,j,none⟩=some v/\VP I w' c v:=fun gl row hr j c hj=>by
 obtain⟨v,h1,h2,h3⟩:=hI.Ey gl row hr j c hj;exact⟨v,hm _ _ h1,h2,h3.mono hm fun _ _ _=>rfl⟩
theorem Pz {E:Env} {g':AH} {w':World} {s':AK} {I:Nat->Nat->Prop} (hI:Inv E g' w' s') (hm:∀ b o,g'.I b o->I b o) :
  ∀ gl row,E.G gl=some row->I gl row.length/\w'.cell? ⟨gl,row.length,none⟩=none:=fun gl row hr=>⟨hm _ _ (hI.C3 gl row hr).1,(hI.C3 gl row hr).2⟩
theorem yN {E:Env} {L:A0} {g g':AH} {w w':World} {s s':AK} (hI:Inv E g w s) (hx:Ext L g w g' w') (Gn:Inv E g' w' s') {id b:Nat} (hid:id<s.bs.length) (hb:g'.blk id=some b):∃ b0,g.blk id=some b0/\b0=b:=by
 rcases hI.EG id hid with ⟨b0,h0⟩|hd|hp|⟨b0,hm⟩
 ·rcases hx.blk id b0 h0 with k|k
  ·rw[hb] at k; simp at k; exact⟨b0,h0,k.symm⟩
  ·rw[g'.hd id k] at hb; simp at hb
 ·rw[g'.hd id (hx.dead id hd)] at hb; simp at hb
 ·rw[(Gn.DV id (hx.C1 id hp)).2.1] at hb; simp at hb
 ·rw[(Gn.KM id b0 (hx.mp id b0 hm)).1] at hb; simp at hb
theorem ADe {E:Env} {L:A0} {g g':AH} {w w':World} {s s':AK} (hI:Inv E g w s) (hx:Ext L g w g' w') (Gn:Inv E g' w' s') {id:Nat} (hid:id<s.bs.length):id<s'.bs.length:=by
 rcases hI.EG id hid with ⟨b0,h0⟩|hd|hp|⟨b0,hm⟩
 ·rcases hx.blk id b0 h0 with k|k
  ·exact Gn.EB id b0 k
  ·exact Gn.DL id k
 ·exact Gn.DL id (hx.dead id hd)
 ·exact(Gn.DV id (hx.C1 id hp)).1
 ·exact Gn.lH (hx.mp id b0 hm)
theorem ADf {E:Env} {L:A0} {g g':AH} {w w':World} {s s':AK} (hI:Inv E g w s) (hx:Ext L g w g' w') (Gn:Inv E g' w' s') {id b:Nat} (hid:id<s.bs.length) (hb:g'.mp id=some b):g.mp id=some b:=by
 obtain⟨x1,x2,x3⟩:=Gn.KM id b hb;rcases hI.EG id hid with ⟨b0,h0⟩|hd|hp|⟨b0,hm⟩
 ·rcases hx.blk id b0 h0 with k|k
  ·rw[x1] at k; simp at k
  ·exact absurd k x2
 ·exact absurd (hx.dead id hd) x2
 ·exact absurd (hx.C1 id hp) x3
 ·rw[hx.mp id b0 hm] at hb
  rw[hm]; exact hb
theorem ADg {E:Env} {L L':A0} {g g':AH} {w w':World} {s s':AK} (hI:Inv E g w s) (hro:L'.ro=s.bs.length) (Fz:L'.rt=s.ts.length) (hx:Ext L' g w g' w') (Gn:Inv E g' w' s') :
  Ext L g w (g.MH (g'.KD s.bs.length)) w'/\Inv E (g.MH (g'.KD s.bs.length)) w' s/\G7 s.bs.length s.ts.length g' (g.MH (g'.KD s.bs.length))/\Om s'.bs s.bs.length g' (g.MH (g'.KD s.bs.length)) w':=by
 have hkb:∀ id b,g.blk id=some b->g'.blk id=some b/\w'.heap[b]?=w.heap[b]?:=fun id b hb=>hx.Fa id b hb (by rw[hro]; exact hI.EB id b hb)
 have hkt:∀ t l,g.tok t=some l->g'.tok t=some l/\w'.heap[l.b]?=w.heap[l.b]?/\∀ o,g'.I l.b o->g.I l.b o:=fun t l hl=>hx.FI t l hl (by
  have:=hI.F7 t l hl;rw[Fz];rcases CU t s.ts.length with k|k
  ·exact k
  ·rw[Ea k] at this; simp at this)
 have hmono:∀ b o,g'.I b o->g'.KD s.bs.length b o:=fun _ _ h=>.inl h
 have keep:∀ b,b<w.heap.size->w'.heap[b]?=w.heap[b]?/\∀ o,g'.KD s.bs.length b o->g.I b o:=fun b hb=>by
  by_cases h1:∃ id,g.blk id=some b
  ·obtain⟨id,h1⟩:=h1
   obtain⟨a1,a2⟩:=hkb id b h1;refine⟨a2,fun o ho=>?_⟩;rcases ho with ho|⟨id',h2,h3⟩
   ·exact absurd ho (Gn.FT id b o a1)
   ·have:=Gn.ET id id' b a1 h3
    have:=hI.EB id b h1;omega
  ·have ZP:∀ id,g.blk id≠some b:=fun id e=>h1 ⟨id,e⟩
   have hno:∀ id',g'.blk id'≠some b:=fun id' h3=>by
    obtain⟨FR,h4⟩:=hx.Gk id' b h3 hb;exact ZP FR h4
   by_cases hm:∃ id,g.mp id=some b
   ·obtain⟨id,hm⟩:=hm
    obtain⟨a1,a2⟩:=hx.FJ id b hm;refine⟨a1 (by rw[hro]; exact hI.lH hm),fun o ho=>?_⟩;rcases ho with ho|⟨id',_,h3⟩
    ·exact a2 o ho
    ·exact absurd h3 (hno id')
   have hm':∀ id,g.mp id≠some b:=fun id e=>hm ⟨id,e⟩
   by_cases h2:∃ t l,g.tok t=some l/\l.b=b
   ·obtain⟨t,l,h2,rfl⟩:=h2
    obtain⟨_,a2,a3⟩:=hkt t l h2;refine⟨a2,fun o ho=>?_⟩;rcases ho with ho|⟨id',_,h3⟩
    ·exact a3 o ho
    ·exact absurd h3 (hno id')
   ·obtain⟨a1,a2⟩:=hx.out b hb ZP (fun t l hl e=>h2 ⟨t,l,hl,e⟩) hm'
    refine⟨a1,fun o ho=>?_⟩;rcases ho with ho|⟨id',_,h3⟩
    ·exact a2 o ho
    ·exact absurd h3 (hno id')
 have ADh:∀ b o,g'.KD s.bs.length b o->b<w'.heap.size:=fun b o ho=>by
  rcases ho with ho|⟨id',_,h3⟩
  ·exact Gn.Il b o ho
  ·exact Gn.C4 h3
 obtain⟨r1,r2⟩:=ZY (L:=L) hI hx.os hx.tape hx.output hx.size (fun b o h=>hmono b o (hx.mono b o h)) keep ADh (Sh Gn hmono) (Pz Gn hmono);refine⟨r1,r2,⟨fun id b hid hb=>?_,fun id hid hd=>?_,fun t l ht hl=>?_,fun id b hid hb=>ADf hI hx Gn hid hb,hmono⟩,KP Gn hmono fun id b o hid hb=>.inr ⟨id,hid,hb⟩⟩
 ·obtain⟨b0,h0,rfl⟩:=yN hI hx Gn hid hb
  exact h0
 ·rcases hI.EG id hid with ⟨b0,h0⟩|hd' | hp|⟨b0,hm⟩
  ·have:=(hkb id b0 h0).1
   rw[g'.hd id hd] at this; simp at this
  ·exact hd'
  ·exact absurd hd (Gn.DV id (hx.C1 id hp)).2.2
  ·exact absurd hd (Gn.KM id b0 (hx.mp id b0 hm)).2.1
 ·have hs:s.ts[t]?=some (s.ts[t].1,s.ts[t].2):=by simp[ht]
  obtain⟨l0,h0,_⟩:=hI.F6 t _ _ hs;have:=(hkt t l0 h0).1;rw[hl] at this; simp at this; subst this;exact h0
def AH.bare (I:Nat->Nat->Prop):AH:=⟨fun _=>none,fun _=>False,fun _=>False,fun _=>none,fun _=>none,I,fun _ h=>h.elim⟩
theorem Inv.bare {E:Env} {g:AH} {w:World} {s:AK} (h:Inv E g w s):Inv E (AH.bare g.I) w ⟨[],[]⟩ where
 EB:=fun _ _ h=>by simp[AH.bare] at h
 DL:=fun _ h=>by simp[AH.bare] at h
 blk:=fun _ _ h=>by simp[AH.bare] at h
 FT:=fun _ _ _ h=>by simp[AH.bare] at h
 DM:=fun _ h=>by simp[AH.bare] at h
 DV:=fun _ h=>by simp[AH.bare] at h
 EG:=fun _ h=>by simp at h
 mp:=fun _ _ h=>by simp[AH.bare] at h
 KM:=fun _ _ h=>by simp[AH.bare] at h
 GU:=fun _ _ _ h=>by simp[AH.bare] at h
 F6:=fun _ _ _ h=>by simp at h
 F7:=fun _ _ h=>by simp[AH.bare] at h
 tok:=fun _ _ h=>by simp[AH.bare] at h
 GV:=fun _ _ _ h=>by simp[AH.bare] at h
 ET:=fun _ _ _ h=>by simp[AH.bare] at h
 Fi:=fun _ _ _ _ h=>by simp[AH.bare] at h
 Cp:=fun _ _ _ _ h=>by simp[AH.bare] at h
 Il:=h.Il
 Ey:=h.Ey
 C3:=h.C3
theorem G7.bare {g:AH}:G7 0 0 g (AH.bare g.I):=⟨fun _ _ h=>absurd h (Gp _),fun _ h=>absurd h (Gp _),fun _ _ h=>absurd h (Gp _),fun _ _ h=>absurd h (Gp _),fun _ _ h=>h⟩
theorem o6 {E:Env} {L L':A0} {g g':AH} {w w':World} {s s':AK} (hI:Inv E g w s) (hx:Ext L' (AH.bare g.I) w g' w') (Gn:Inv E g' w' s') :
  Ext L g w (g.MH (g'.KD 0)) w'/\Inv E (g.MH (g'.KD 0)) w' s/\G7 0 0 g' (g.MH (g'.KD 0))/\Om s'.bs 0 g' (g.MH (g'.KD 0)) w':=by
 have hmono:∀ b o,g'.I b o->g'.KD 0 b o:=fun _ _ h=>.inl h
 have keep:∀ b,b<w.heap.size->w'.heap[b]?=w.heap[b]?/\∀ o,g'.KD 0 b o->g.I b o:=fun b hb=>by
  obtain⟨a1,a2⟩:=hx.out b hb (fun _ e=>by simp[AH.bare] at e) (fun _ _ e=>by simp[AH.bare] at e) (fun _ e=>by simp[AH.bare] at e);refine⟨a1,fun o ho=>?_⟩;rcases ho with ho|⟨id',_,h3⟩
  ·exact a2 o ho
  ·obtain⟨FR,h4⟩:=hx.Gk id' b h3 hb
   simp[AH.bare] at h4
 have ADh:∀ b o,g'.KD 0 b o->b<w'.heap.size:=fun b o ho=>by
  rcases ho with ho|⟨id',_,h3⟩
  ·exact Gn.Il b o ho
  ·exact Gn.C4 h3
 obtain⟨r1,r2⟩:=ZY (L:=L) hI hx.os hx.tape hx.output hx.size (fun b o h=>hmono b o (hx.mono b o h)) keep ADh (Sh Gn hmono) (Pz Gn hmono);exact⟨r1,r2,⟨fun _ _ h=>absurd h (Gp _),fun _ h=>absurd h (Gp _),fun _ _ h=>absurd h (Gp _),fun _ _ h=>absurd h (Gp _),hmono⟩,KP Gn hmono fun id b o hid hb=>.inr ⟨id,hid,hb⟩⟩
def AH.cut (g:AH) (n:Nat) (r:Option Nat):AH where
 blk id:=if id<n then g.blk id else if id=n then r.bind g.blk else none
 dead id:=id<n/\g.dead id
 C1 id:=id<n/\g.C1 id
 tok:=g.tok
 mp id:=if id<n then g.mp id else none
 I b o:=g.I b o\/∃ id,n<=id/\r≠some id/\g.blk id=some b
 hd id h:=by simp[h.1,g.hd id h.2]
theorem JC {g:AH} {n:Nat} {r:Option Nat} {id b:Nat} (h:(g.cut n r).blk id=some b):(id<n/\g.blk id=some b)\/(id=n/\∃ FR,r=some FR/\g.blk FR=some b):=by
 simp only[AH.cut] at h;split at h
 ·rename_i hid; exact .inl ⟨hid,h⟩
 ·split at h
  ·rename_i hid
   cases r with
   | none=>simp at h
   | some FR=>exact .inr ⟨hid,FR,rfl,by simpa using h⟩
  ·simp at h
theorem On {g:AH} {n:Nat} {r:Option Nat} {id b:Nat} (hid:id<n) (h:g.blk id=some b):(g.cut n r).blk id=some b:=by simp[AH.cut,hid,h]
theorem Si {g:AH} {n:Nat} {r:Option Nat} {id b:Nat} (h:(g.cut n r).mp id=some b):id<n/\g.mp id=some b:=by
 simp only[AH.cut] at h;split at h
 ·rename_i hid; exact⟨hid,h⟩
 ·simp at h
theorem Oo {g:AH} {n:Nat} {r:Option Nat} {id b:Nat} (hid:id<n) (h:g.mp id=some b):(g.cut n r).mp id=some b:=by simp[AH.cut,hid,h]
theorem Py.cut {g:AH} {n:Nat} {r:Option Nat}:Py n g (g.cut n r):=
 ⟨fun _ _ hid hb=>On hid hb,fun _ hid hd=>⟨hid,hd⟩,fun _ _ h=>h,fun _ _ hid hb=>Oo hid hb,fun _ _ h=>.inl h⟩
def RM (s:AK) (n:Nat) (r:Option Nat):AK:=⟨s.bs.take n++(match r with|none=>[]|some id=>(s.bs[id]?).toList),s.ts⟩
theorem o7 {E:Env} {L L':A0} {g g':AH} {w w':World} {s s':AK} {r:Option Nat} (hI:Inv E g w s) (hro:L'.ro=L.ro) (Fz:L'.rt=L.rt) (hx:Ext L' g w g' w') (Gn:Inv E g' w' s')
  (Xk:(s'.bs.take s.bs.length).all (AU s.bs.length)=true)
  (hr:∀ id,r=some id->s.bs.length<=id/\(∃ b,g'.blk id=some b)/\∀ cs,s'.bs[id]?=some cs->AU s.bs.length cs=true) :
  Ext L g w (g'.cut s.bs.length r) w'/\Inv E (g'.cut s.bs.length r) w' (RM s' s.bs.length r):=by
 have hle:s.bs.length<=s'.bs.length:=by
  rcases CU 0 s.bs.length with k|k
  ·have:=ADe hI hx Gn (id:=s.bs.length-1) (by omega); omega
  ·omega
 have Xl:(s'.bs.take s.bs.length).length=s.bs.length:=by simp; omega
 have hbN:∀ id b,g.blk id=some b->id<s.bs.length:=hI.EB
 have hno:∀ b o,(∀ id,g'.blk id=some b->id<s.bs.length)->(g'.cut s.bs.length r).I b o->g'.I b o:=fun b o h hi=>by
  rcases hi with hi|⟨id,h1,_,h3⟩
  ·exact hi
  ·have:=h id h3; omega
 have get:∀ id,id<s.bs.length->(RM s' s.bs.length r).bs[id]?=s'.bs[id]?:=fun id hid=>by
  simp only[RM];rw[BA (by rw[Xl]; exact hid),OO hid]
 have ids:∀ id cs,id<s.bs.length->s'.bs[id]?=some cs->AU s.bs.length cs=true:=fun id cs hid hcs=>by
  rw[Bs] at Xk;refine Xk cs (BK (i:=id) ?_);rw[OO hid]; exact hcs
 have ext:Ext L g w (g'.cut s.bs.length r) w':={
  os:=hx.os,tape:=hx.tape,output:=hx.output,size:=hx.size
  mono:=fun b o hi=>.inl (hx.mono b o hi)
  cell:=hx.cell
  blk:=fun id b hb=>by
   rcases hx.blk id b hb with k|k
   ·exact .inl (On (hbN id b hb) k)
   ·exact .inr ⟨hbN id b hb,k⟩
  dead:=fun id hd=>⟨hI.DL id hd,hx.dead id hd⟩
  shape:=fun id b hb hb'=>by
   rcases JC hb' with ⟨_,k⟩|⟨k,_⟩
   ·exact hx.shape id b hb k
   ·have:=hbN id b hb; omega
  tok:=hx.tok
  Fa:=fun id b hb hlt=>by
   obtain⟨a1,a2⟩:=hx.Fa id b hb (by rw[hro]; exact hlt);exact⟨On (hbN id b hb) a1,a2⟩
  FI:=fun t l hl hlt=>by
   obtain⟨a1,a2,a3⟩:=hx.FI t l hl (by rw[Fz]; exact hlt);refine⟨a1,a2,fun o ho=>a3 o ?_⟩;rcases ho with ho|⟨id,_,_,h3⟩
   ·exact ho
   ·exact absurd rfl (Gn.Cp id l.b t l h3 a1)
  mp:=fun id b hb=>Oo (hI.lH hb) (hx.mp id b hb)
  FJ:=fun id b hb=>by
   obtain⟨a1,a2⟩:=hx.FJ id b hb;refine⟨fun hlt=>a1 (by rw[hro]; exact hlt),fun o ho=>a2 o ?_⟩;rcases ho with ho|⟨id',_,_,h3⟩
   ·exact ho
   ·exact absurd h3 (Gn.yD (hx.mp id b hb))
  JT:=fun id b hb hlt=>hx.JT id b (Si hb).2 hlt
  out:=fun b hb h1 h2 h3=>by
   obtain⟨a1,a2⟩:=hx.out b hb h1 h2 h3;refine⟨a1,fun o ho=>a2 o ?_⟩;rcases ho with ho|⟨id,_,_,h3⟩
   ·exact ho
   ·obtain⟨FR,h4⟩:=hx.Gk id b h3 hb
    exact absurd h4 (h1 FR)
  Gk:=fun id b hb hlt=>by
   rcases JC hb with ⟨_,k⟩|⟨_,FR,_,k⟩
   ·exact hx.Gk id b k hlt
   ·exact hx.Gk FR b k hlt
  JU:=hx.JU
  C1:=fun id hp=>⟨(hI.DV id hp).1,hx.C1 id hp⟩ }
 have o8:∀ FR,r=some FR->∃ cs,s'.bs[FR]?=some cs/\(RM s' s.bs.length r).bs[s.bs.length]?=some cs/\(RM s' s.bs.length r).bs.length=s.bs.length+1:=fun FR e=>by
  obtain⟨_,⟨b,hb⟩,_⟩:=hr FR e;have hlt:=Gn.EB FR b hb;refine⟨s'.bs[FR],by simp[hlt],?_,?_⟩
  ·simp only[RM,e]
   rw[CV (by rw[Xl]; exact AL _),Xl];simp[hlt]
  ·simp only[RM,e]
   rw[Ab,Xl];simp[hlt]
 have hlen:s.bs.length<=(RM s' s.bs.length r).bs.length:=by
  simp only[RM];rw[Ab,Xl];omega
 refine⟨ext,?_⟩
 exact {
  EB:=fun id b hb=>by
   rcases JC hb with ⟨k,_⟩|⟨rfl,FR,e,_⟩
   ·omega
   ·obtain⟨_,_,_,h3⟩:=o8 FR e; omega
  DL:=fun id hd=>by have:=hd.1; omega
  blk:=fun id b hb=>by
   rcases JC hb with ⟨k,hb⟩|⟨rfl,FR,e,hb⟩
   ·obtain⟨cs,vs,e,h1,h2,h3,h4⟩:=Gn.blk id b hb
    exact⟨cs,vs,e,(get id k).trans h1,h2,h3,h4.keep Py.cut (ids id cs k h1)⟩
   ·obtain⟨cs,vs,e',h1,h2,h3,h4⟩:=Gn.blk FR b hb
    obtain⟨cs',k1,k2,_⟩:=o8 FR e;rw[h1] at k1; simp at k1; subst k1;exact⟨cs,vs,e',k2,h2,h3,h4.keep Py.cut ((hr FR e).2.2 cs h1)⟩
  FT:=fun id b o hb hi=>by
   rcases JC hb with ⟨k,hb⟩|⟨rfl,FR,e,hb⟩
   ·rcases hi with hi|⟨id',h1,_,h3⟩
    ·exact Gn.FT id b o hb hi
    ·have:=Gn.ET id id' b hb h3; omega
   ·rcases hi with hi|⟨id',h1,h2,h3⟩
    ·exact Gn.FT FR b o hb hi
    ·have:=Gn.ET FR id' b hb h3
     exact h2 (by rw[e,this])
  DM:=fun id hd=>(get id hd.1).trans (Gn.DM id hd.2)
  DV:=fun id hp=>by
   obtain⟨a,b,c⟩:=Gn.DV id hp.2;exact⟨by have:=hp.1; omega,by simp[AH.cut,hp.1,b],fun hd=>c hd.2⟩
  EG:=fun id hid=>by
   by_cases k:id<s.bs.length
   ·rcases Gn.EG id (by omega) with ⟨b,hb⟩|hd|hp|⟨b,hm⟩
    ·exact .inl ⟨b,On k hb⟩
    ·exact .inr (.inl ⟨k,hd⟩)
    ·exact .inr (.inr (.inl ⟨k,hp⟩))
    ·exact .inr (.inr (.inr ⟨b,Oo k hm⟩))
   ·cases e:r with
    | none=>
     simp only[RM,e] at hid;rw[Ab,Xl] at hid;simp at hid; omega
    | some FR=>
     obtain⟨_,_,_,h3⟩:=o8 FR e;rw[h3] at hid;have:id=s.bs.length:=by omega
     subst this;obtain⟨_,⟨b,hb⟩,_⟩:=hr FR e;exact .inl ⟨b,by simp[AH.cut,hb]⟩
  mp:=fun id b hb=>by
   obtain⟨k,hm⟩:=Si hb;obtain⟨es,c,h1,h2⟩:=Gn.mp id b hm;exact⟨es,c,(get id k).trans h1,h2⟩
  KM:=fun id b hb=>by
   obtain⟨k,hm⟩:=Si hb;obtain⟨a1,a2,a3⟩:=Gn.KM id b hm;exact⟨by simp[AH.cut,k,a1],fun hd=>a2 hd.2,fun hp=>a3 hp.2⟩
  GU:=fun id id' b hb hb'=>Gn.GU id id' b (Si hb).2 (Si hb').2
  F6:=Gn.F6
  F7:=Gn.F7
  tok:=Gn.tok
  GV:=fun t l o hl hle hi=>by
   rcases hi with hi|⟨id',_,_,h3⟩
   ·exact Gn.GV t l o hl hle hi
   ·exact absurd rfl (Gn.Cp id' l.b t l h3 hl)
  ET:=fun id id' b hb hb'=>by
   rcases JC hb with ⟨k,hb⟩|⟨rfl,FR,e,hb⟩
   ·rcases JC hb' with ⟨k',hb'⟩|⟨rfl,FR,e,hb'⟩
    ·exact Gn.ET id id' b hb hb'
    ·have:=Gn.ET id FR b hb hb'
     have:=(hr FR e).1;omega
   ·rcases JC hb' with ⟨k',hb'⟩|⟨rfl,_⟩
    ·have:=Gn.ET id' FR b hb' hb
     have:=(hr FR e).1;omega
    ·rfl
  Fi:=Gn.Fi
  Cp:=fun id b t l hb hl=>by
   rcases JC hb with ⟨_,hb⟩|⟨_,FR,_,hb⟩
   ·exact Gn.Cp id b t l hb hl
   ·exact Gn.Cp FR b t l hb hl
  Il:=fun b o hi=>by
   rcases hi with hi|⟨id,_,_,h3⟩
   ·exact Gn.Il b o hi
   ·exact Gn.C4 h3
  Ey:=Sh Gn fun _ _ h=>.inl h
  C3:=Pz Gn fun _ _ h=>.inl h }
theorem ZZ {E:Env} {L L':A0} {g g':AH} {w w':World} {s s' s'':AK} {r:Bool} {v x:AV} {u:Value} (hI:Inv E g w s) (hro:L'.ro=L.ro) (Fz:L'.rt=L.rt) (hx:Ext L' g w g' w') (Gn:Inv E g' w' s')
  (hv:V g' w' x u) (h:NR r s.bs.length x s'=some (v,s'')):∃ g'',V g'' w' v u/\Ext L g w g'' w'/\Inv E g'' w' s'':=by
 unfold NR at h;cases Xk:(s'.bs.take s.bs.length).all (AU s.bs.length) with
 | false=>rw[Xk] at h; simp at h
 | true=>
  rw[Xk] at h;simp only[AE] at h;split at h
  ·rename_i id off len sz hnr
   unfold SJ at hnr;split at hnr
   ·rename_i id' off' len' sz'
    cases hc:(r&&Nat.ble s.bs.length id') with
    | false=>rw[hc] at hnr; simp at hnr
    | true=>
     rw[hc] at hnr;simp at hnr;obtain⟨rfl,rfl,rfl,rfl⟩:=hnr;simp at hc;split at h
     ·rename_i c cs hcs
      cases hl:AU s.bs.length (c::cs) with
      | false=>rw[hl] at h; simp at h
      | true=>
       rw[hl] at h;simp only[AE,AY,Af] at h;obtain⟨rfl,rfl⟩:=h;cases hv with
       | I8 hd=>have:=Gn.DM _ hd; rw[hcs] at this; simp at this
       | @ref _ _ _ _ b cap n e F2 hcap hs hn=>
        obtain⟨r1,r2⟩:=o7 (L:=L) (r:=some id') hI hro Fz hx Gn Xk (fun id e=>by
         simp at e; subst e;exact⟨hc.2,⟨b,F2⟩,fun cs' h'=>by rw[hcs] at h'; simp at h'; subst h'; exact hl⟩)
        refine⟨_,?_,r1,?_⟩
        ·exact .ref (by simp[AH.cut,F2]) hcap hs hn
        ·simpa[RM,hcs] using r2
     ·simp at h
   ·simp at hnr
  ·split at h
   ·rename_i y hy
    simp only[AY,Af] at h;obtain⟨rfl,rfl⟩:=h;obtain⟨r1,r2⟩:=o7 (L:=L) (r:=none) hI hro Fz hx Gn Xk (fun id e=>by simp at e);refine⟨_,?_,r1,?_⟩
    ·have hk:G7 s.bs.length s'.ts.length g' (g'.cut s.bs.length none):=⟨fun _ _ a b=>On a b,fun _ a b=>⟨a,b⟩,fun _ _ _ h=>h,fun _ _ a b=>Oo a b,fun _ _ h=>.inl h⟩
     have ho:Om s'.bs s.bs.length g' (g'.cut s.bs.length none) w':=KP Gn hk.mono fun id b o h1 h2=>Or.inr ⟨id,h1,by simp,h2⟩
     exact IZ ho hk _ _ _ hy hv
    ·simpa[RM] using r2
   ·simp at h
end Go.Tel
