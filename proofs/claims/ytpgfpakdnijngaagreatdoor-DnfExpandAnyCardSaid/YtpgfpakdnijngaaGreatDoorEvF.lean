/-
  A row that is appended as zero and then written: the world meanwhile.
-/
import Derived.Test.YtpgfpakdnijngaaGreatDoorEvE
set_option linter.all false
namespace Go.Tel
theorem sF (us:List Value):∀(vs vs':List Value) (k:Nat),vs.length=vs'.length->(∀q,(q<k\/k+us.length<=q)->vs[q]?=vs'[q]?)->CA vs k us=CA vs' k us:=by
 induction us with
 | nil=>intro vs vs' k hl h; simp only[CA]; exact G9 λq=>h q (by grind)
 | cons u us ih=>
  grind[CA]
theorem Vk (us zs:List Value) (h:zs.length=us.length) (vs:List Value) (k:Nat):CA (CA vs k zs) k us=CA vs k us:=
 sF us _ _ k (Be _ _ _) λ_ hq=>FH _ _ _ _ (by omega)
theorem sG (us:List Value):∀(os r:List Value),r.length=us.length->∀rest,CA (os++r++rest) os.length us=os++us++rest:=by
 intro os r hr rest;apply G9;intro q;rcases FX q os.length with a|a
 .grind[FH]
 .rcases FX q (os.length+us.length) with b|b
  .obtain⟨j,rfl⟩:∃j,q=os.length+j:=⟨q-os.length,by omega⟩
   simp_all[Gp,E3,CZ]
  grind[FH]
theorem Si {os rest:List Value} (zs us:List Value) (h:zs.length=us.length):CA (os++zs++rest) os.length us=os++us++rest:=sG us os zs h rest
theorem GX {w:World} {vs us:List Value} {e:TypeId}:BI (CW w vs e) w.heap.size us e=CW w us e:=by
 refine He ?_ rfl rfl rfl rfl;apply OD
 grind[BX,CW]
theorem VP.one {I:Nat->Nat->Prop} {w:World} {p:PV} {u:Value} (g:AE) (hg:g.I=I) (h:VP I w p u) (ho:BE (.pv p)=true):u.oneCell'=true:=by
 subst hg;exact JH (.pv h) ho
theorem Flat.one {I:Nat->Nat->Prop} {w:World} {z:List PV} {us:List Value} (g:AE) (hg:g.I=I) (h:Flat I w [z] z.length us) (ho:(z.map AV.pv).all BE=true):∀u∈us,u.oneCell'=true:=by
 intro u hu;obtain⟨j,hj,rfl⟩:=MV.1 hu;have hlen:=h.len;simp at hlen;obtain⟨u',h1,h2⟩:=h.at_ 0 z j z[j] rfl (by simp)
 grind[VP.one]
theorem Ly {E:Env} {L:A3} {g:AE} {w:World} {s s':AL} (hI:Inv E g w s) {t elem T:TypeId} {i:TypeInfo} {x y v:AV} {xv yv:Value} {rows:List (List PV)} {z row:List PV} {us:List Value}
  (ht:E.P.underlying t=some (.slice elem)) (hi:E.P.info? elem=some i) (hk:i.size≠0) (hze:(zeroOf E.P elem).map List.length=some i.size)
  (hx:V g w x xv) (jh:rowsOf x=some rows) (hy:V g w y yv) (hyr:rowsOf y=some [z]) (hzl:z.length=i.size) (hzo:(z.map AV.pv).all BE=true)
  (hus:us.length=i.size) (hrow:row.length=i.size) (hvp:∀(j:Nat) p,row[j]?=some p->∃u,us[j]?=some u/\VP g.I w p u)
  (h:KP L s elem i x row=some (v,s')) :
  ∃b cap vz e fz w1 wv g',
   (Builtin.append_ #[t,t] T #[xv,yv]).run E.P w=.ok (.slice (some ⟨b,0,none⟩) (rows.length+1) cap) w1 /\
   V g' wv v (.slice (some ⟨b,0,none⟩) (rows.length+1) cap)/\Ext L g w g' wv/\Inv E g' wv s' /\
   wv.heap[b]?=some (.cells ⟨CA vz (rows.length*i.size) us⟩ e fz)/\w1=BI wv b vz e fz/\(rows.length*i.size+us.length<=vz.length/\fz.2<=rows.length*i.size) /\
   (∃k l,g'.tok k=some l/\l.b=b):=by
 obtain⟨ANs,Gg,yb,yo,ysz,yf,rfl,AZe,AVC⟩:=Dy hy hyr;obtain⟨zs,hzf,_,AEY⟩:=AVC.Vg (k:=i.size) hk (by grind) Gg;have AIm:zs.length=i.size:=by have:=hzf.len; grind
 have sH:∀u∈zs,u.oneCell'=true:=Flat.one g rfl (by rw[hzl]; omega) hzo;obtain⟨zz,hzz⟩:∃zz,zeroOf E.P elem=some zz:=by grind[zeroOf]
 obtain⟨i',zv,hi',je,_,AIn⟩:=Dd (g:=g) (w:=w) hzz;have:i'=i:=by grind
 subst this;have hse:Dk E.P elem=some i'.size:=by grind[Dk]
 have hzs:zv.cells.size=i'.size:=by rw[<-G8,<-AIn.len]; grind
 have hn:(Builtin.lenOf (.slice ANs [z].length Gg)).run E.P w=.ok 1 w:=Zh _ _ _;have hd:∀k,TypeDesc.slice elem≠.int k:=λk e=>by grind
 have hfn:Flat g.I w [row] i'.size us:=by
  have:=H7 (k:=i'.size) (n:=1) (ps:=row) (us:=us) (I:=g.I) (w:=w) (by omega) (by omega) hvp
  grind[CR]
 unfold KP at h;split at h
 .rename_i EE
  simp[rowsOf] at jh; subst jh;split at h
  .rename_i hc
   obtain⟨SX,Ll,hall⟩:=hc;have hl:=LF hall;simp only[Au,A0] at h;obtain⟨rfl,rfl⟩:=h;cases hx with
   | @AA _ base b o sz f hr=>
    obtain⟨os,hfo,_,Sa⟩:=hr.Vg hk hl EE.length;obtain⟨G3,rest,NW,RL,hrun⟩:=run_append_grow (base:=base) (sCap:=EE.length) T [] ht hi ht hd hn (AEY E.P (BN w) rfl) (Sa E.P (BN w) rfl) je (by omega) SX Ll;obtain⟨e1,i1⟩:=hI.drew (L:=L);have sB:=hfo.append hfn
    have eP:(os++us++rest).length=G3*i'.size:=by
     simp only[CD,hfo.len,hus,RL,hzs];rw[show EE.length*i'.size+i'.size=(EE.length+1)*i'.size by grind,<-EK];rw[show EE.length+1+(G3-(EE.length+1))=G3 by omega]
    obtain⟨e3,i3⟩:=i1.Zg (L:=L) (t:=s.ts.length) (n:=EE.length+1) (e:=elem) eP NW hk hse (.inl ⟨rfl,rfl⟩);have hrl:(EE++[row]).length=EE.length+1:=by simp
    refine⟨w.heap.size,G3,os++zs++rest,elem,(0,0),_,CW (BN w) (os++us++rest) elem,_,hrun,?_,e1.trans e3,i3,?_,?_,?_,s.ts.length,⟨(BN w).heap.size,G3,i'.size,EE.length+1,elem⟩,by simp[AE.F5],rfl⟩
    .have hV:=Gq (g:=g.F5 s.ts.length ⟨(BN w).heap.size,G3,i'.size,EE.length+1,elem⟩) (w:=CW (BN w) (os++us++rest) elem) (t:=s.ts.length) (b:=(BN w).heap.size) (cap:=G3) (e:=elem)
      (by simp[AE.F5]) (sB.mono (e1.trans e3).mono (e1.trans e3).cell) hrl NW (λo ho=>.inr ⟨rfl,ho⟩) (λq u hq=>by
       rw[Bg (by rw[Bv]; exact if_pos rfl),CZ (C5 hq)]; omega)
     rw[hrl] at hV;exact hV
    .rw[Bv,if_pos (show w.heap.size=(BN w).heap.size from rfl),<-hfo.len,Si zs us (by omega)]
    .grind[GX,BN]
    .exact⟨by simp[hfo.len,AIm,hus],AI _⟩
  grind
 .rename_i k EE
  simp[rowsOf] at jh; subst jh;split at h
  .rename_i hc
   obtain⟨SX,Ll,hts,Eb,hall⟩:=hc;have hl:=LF hall;simp only[Au,A0] at h;obtain⟨rfl,rfl⟩:=h;have hrl:(EE++[row]).length=EE.length+1:=by simp
   cases hx with
   | @own _ _ base b o sz cap f l hr hcap Vh N7 hf=>
    obtain⟨l',dz,Pb,AU5⟩:=hI.Fl k _ _ hts;have:l'=l:=by grind
    subst this;obtain⟨rfl,rfl,rfl,rfl,rfl⟩:=hf Pb.symm;obtain⟨os,hfo,hco,Sa⟩:=hr.Vg hk hl l'.cap;have sB:=hfo.append hfn;obtain⟨vs,fz,hh,AU7,hnc,hsz,hfz,hsl⟩:=hI.tok k l' Vh;have jf:l'.sz=i'.size:=by grind
    by_cases hroom:EE.length+1<=l'.cap
    .have hbd:l'.n*l'.sz+i'.size<=vs.length:=by
      have:=CO i'.size hroom
      grind
     have hst:=FG (P:=E.P) (b:=l'.b) (o:=l'.n*l'.sz) (e:=l'.e) hfz zs 0 w vs sH hh (by omega);obtain⟨e3,i3⟩:=hI.AEW (L:=L) (n:=EE.length+1) (us:=us) Vh hh (by omega) hroom Eb;have i3':Inv E (g.F5 k { l' with n:=EE.length+1 }) (BI w l'.b (CA vs (l'.n*l'.sz) us) l'.e fz) { s with ts:=s.ts.set k (EE.length+1,elem) }:=by grind
     refine⟨l'.b,l'.cap,CA vs (l'.n*l'.sz) zs,l'.e,fz,BI w l'.b (CA vs (l'.n*l'.sz) zs) l'.e fz,BI w l'.b (CA vs (l'.n*l'.sz) us) l'.e fz,_,?_,?_,e3,i3',?_,?_,?_,k,{ l' with n:=EE.length+1 },by simp[AE.F5],rfl⟩
     .simp_all[run_append_room,DN]
     .have hV:=Gq (g:=g.F5 k { l' with n:=EE.length+1 }) (w:=BI w l'.b (CA vs (l'.n*l'.sz) us) l'.e fz) (t:=k) (b:=l'.b) (cap:=l'.cap) (sz:=l'.sz) (e:=l'.e)
       (by simp[AE.F5]) (Flat.ANr jf.symm (sB.mono e3.mono e3.cell)) hrl hroom (λo ho=>.inr ⟨rfl,ho⟩) (λq u hq=>by
        rw[Bg (by rw[BX,if_pos rfl,if_pos (hI.Ff Vh)])];rcases FX q os.length with x|x
        .rw[CZ x] at hq
         have:=(hco q u hq).2;rw[Bg hh,CP] at this;rw[FH us vs _ _ (.inl (by rw[Pb,jf,<-hfo.len]; exact x))];omega
        .rw[E3 x] at hq
         have:=Gp us vs (l'.n*l'.sz) _ u hq (by omega);rw[Pb,jf,<-hfo.len,show os.length+(q-os.length)=q by omega] at this;rw[Pb,jf,<-hfo.len];omega)
      grind
     .grind[BX,Vk]
     .exact EI.symm
     grind[Be]
    .obtain⟨G3,rest,NW,RL,hrun⟩:=run_append_grow (base:=some ⟨l'.b,0,none⟩) (sCap:=l'.cap) T [] ht hi ht hd hn (AEY E.P (BN w) rfl) (Sa E.P (BN w) rfl) je (by omega) SX Ll
     obtain⟨e1,i1⟩:=hI.drew (L:=L)
     have eP:(os++us++rest).length=G3*i'.size:=by
      simp only[CD,hfo.len,hus,RL,hzs];rw[show EE.length*i'.size+i'.size=(EE.length+1)*i'.size by grind,<-EK];rw[show EE.length+1+(G3-(EE.length+1))=G3 by omega]
     obtain⟨e3,i3⟩:=i1.Zg (L:=L) (t:=k) (n:=EE.length+1) (e:=elem) eP NW hk hse (.inr ⟨l',Vh,by omega,Eb,rfl⟩);refine⟨w.heap.size,G3,os++zs++rest,elem,(0,0),_,CW (BN w) (os++us++rest) elem,_,hrun,?_,e1.trans e3,i3,?_,?_,?_,k,⟨(BN w).heap.size,G3,i'.size,EE.length+1,elem⟩,by simp[AE.F5],rfl⟩
     .have hV:=Gq (g:=g.F5 k ⟨(BN w).heap.size,G3,i'.size,EE.length+1,elem⟩) (w:=CW (BN w) (os++us++rest) elem) (t:=k) (b:=(BN w).heap.size) (cap:=G3) (e:=elem)
       (by simp[AE.F5]) (sB.mono (e1.trans e3).mono (e1.trans e3).cell) hrl NW (λo ho=>.inr ⟨rfl,ho⟩) (λq u hq=>by
        rw[Bg (by rw[Bv]; exact if_pos rfl),CZ (C5 hq)]; omega)
      rw[hrl] at hV;exact hV
     .rw[Bv,if_pos (show w.heap.size=(BN w).heap.size from rfl),<-hfo.len,Si zs us (by omega)]
     .grind[GX,BN]
     .exact⟨by simp[hfo.len,AIm,hus],AI _⟩
  grind
 grind
theorem eU {E:Env} {L:A3} {g:AE} {w:World} {s:AL} (hI:Inv E g w s) {t elem T:TypeId} {i:TypeInfo} {y:AV} {xv yv:Value} {id len:Nat} {old zs cells:List AV} {us:List Value}
  (ht:E.P.underlying t=some (.slice elem)) (hi:E.P.info? elem=some i) (hk:i.size≠0) (hze:(zeroOf E.P elem).map List.length=some i.size)
  (hx:V g w (.ref id 0 len i.size) xv) (hy:V g w y yv) (hzs:C0 s i.size y=some zs) (hzl:zs.length=i.size) (hzo:zs.all BE=true)
  (hold:s.bs[id]?=some old) (hlo:len*i.size<=old.length) (hal:Tel.alive s id=true) (SX:(len+1)*i.bytes<=2 ^ 45) (Ll:len+1<=2 ^ 45) (hro:L.ro<=id)
  (hus:us.length=i.size) (hvl:VL g w cells us) :
  ∃b cap vz e fz w1 wv g',
   (Builtin.append_ #[t,t] T #[xv,yv]).run E.P w=.ok (.slice (some ⟨b,0,none⟩) (len+1) cap) w1 /\
   V g' wv (.ref s.bs.length 0 (len+1) i.size) (.slice (some ⟨b,0,none⟩) (len+1) cap)/\Ext L g w g' wv/\Inv E g' wv { s with bs:=s.bs.set id []++[old.take (len*i.size)++cells] } /\
   wv.heap[b]?=some (.cells ⟨CA vz (len*i.size) us⟩ e fz)/\w1=BI wv b vz e fz/\(len*i.size+us.length<=vz.length/\fz.2<=len*i.size) /\
   g'.blk s.bs.length=some b:=by
 obtain⟨zz,hzz⟩:∃zz,zeroOf E.P elem=some zz:=by grind[zeroOf]
 obtain⟨i',zv,hi',je,_,AIn⟩:=Dd (g:=g) (w:=w) hzz;have:i'=i:=by grind
 subst this;have AVD:zv.cells.size=i'.size:=by rw[<-G8,<-AIn.len]; grind
 obtain⟨n,zsv,hn,Bi,hfc,AEZ⟩:=HF hI hy hk hzs
 have hn1:n=1:=by
  rw[hzl] at Bi;exact(Nat.eq_of_mul_eq_mul_right (Nat.pos_of_ne_zero hk) (by omega)).symm
 subst hn1;have sH:∀u∈zsv,u.oneCell'=true:=AEZ.one hzo;have AIm:zsv.length=i'.size:=by rw[<-AEZ.len]; omega
 have hcells:cells.length=i'.size:=by rw[hvl.len]; omega
 have hd:∀k,TypeDesc.slice elem≠.int k:=λk e=>by grind
 cases hx with
 | Ik hd=>exact absurd hd (hI.alive hal)
 | @ref _ _ _ _ b cap n' e H8 hcap hs hn'=>
  obtain⟨cs',vs,e',k1,k2,kle,k3⟩:=hI.blk id b H8;rw[hold] at k1; simp only[Au] at k1; subst k1;have hsh:vs.length=n':=by rw[Bh k2] at hs; grind
  have k4:VL g w (old.take (len*i'.size)) (vs.take (len*i'.size)):=by
   have:=k3.take (len*i'.size)
   grind
  have ZS:(old.take (len*i'.size)).length=len*i'.size:=by grind
  by_cases hroom:len+1<=cap
  .have hbd:len*i'.size+us.length<=vs.length:=by
    have:=CO i'.size hroom
    grind
   have hst:=Fo (P:=E.P) (b:=b) (o:=len*i'.size) (e:=e') zsv 0 w vs sH k2 (by omega)
   obtain⟨e1,e2⟩:=hI.sA (L:=L) (cs':=old.take (len*i'.size)++cells) (vs':=CA vs (len*i'.size) us) H8 k2 (Be _ _ _) hro
    (by grind[Be])
    (by rw[CD,ZS,hvl.len,KX us vs _ hbd]; exact k4.append hvl)
   refine⟨b,cap,CA vs (len*i'.size) zsv,e',(0,0),BI w b (CA vs (len*i'.size) zsv) e',BI w b (CA vs (len*i'.size) us) e',_,?_,V.ref (b:=b) (e:=e') (n:=n') ?_ hroom ?_ hn',e1,e2,?_,?_,?_,?_⟩
   .simp[*,run_append_room,DN]
   .simp[AE.Fi]
   .grind[Bh,BX,Be]
   .grind[BX,Vk]
   .exact EI.symm
   all_goals grind[Be,AE.Fi]
  .have hvt:(vs.take (len*i'.size)).length=len*i'.size:=by grind
   have hos:(Builtin.firstCells i'.size len (.slice (some ⟨b,0,none⟩) len cap)).run E.P (BN w)=.ok (List.toArray (vs.take (len*i'.size))) (BN w):=by grind[Builtin.firstCells,EW,BN,Bg]
   obtain⟨G3,rest,NW,RL,hrun⟩:=run_append_grow (base:=some ⟨b,0,none⟩) (sCap:=cap) T [] ht hi ht hd hn (hfc (BN w) rfl) hos je (by omega) SX Ll;obtain⟨e1,i1⟩:=hI.drew (L:=L);obtain⟨e2,i2⟩:=i1.kill (L:=L) H8 hro;have hpre:(old.take (len*i'.size)++cells).length<=(vs.take (len*i'.size)++us++rest).length:=by grind
   have Vh:(vs.take (len*i'.size)++us++rest).take (old.take (len*i'.size)++cells).length=vs.take (len*i'.size)++us:=by
    rw[Ri (by grind)]
   obtain⟨e3,i3⟩:=i2.Qp (L:=L) (cs:=old.take (len*i'.size)++cells) (vs:=vs.take (len*i'.size)++us++rest) elem hpre (by rw[Vh]; exact((k4.append hvl).mono e1).mono e2);have hl:({ s with bs:=s.bs.set id [] }:AL).bs.length=s.bs.length:=by simp
   refine⟨w.heap.size,G3,vs.take (len*i'.size)++zsv++rest,elem,(0,0),_,CW (BN w) (vs.take (len*i'.size)++us++rest) elem,_,hrun,?_,(e1.trans e2).trans e3,i3,?_,?_,?_,?_⟩
   .refine V.ref (b:=w.heap.size) (e:=elem) (n:=(vs.take (len*i'.size)++us++rest).length) ?_ NW ?_ ?_
    .simp[AE.Fi,BN]
    .exact Bh (by rw[Bv]; exact if_pos rfl)
    .simp only[CD,hvt,hus,RL,AVD]
     have h1:len*i'.size+i'.size=(len+1)*i'.size:=by grind
     rw[h1,<-EK]
     grind
   all_goals grind[Bv,BN,Si,GX,AE.Fi]
theorem X4 {w:World} {b b':Nat} {vs us:List Value} {e e':TypeId} {fz fz':Nat×Nat} (h:b≠b'):BI (BI w b vs e fz) b' us e' fz'=BI (BI w b' us e' fz') b vs e fz:=by
 refine He ?_ rfl rfl rfl rfl;exact Array.setIfInBounds_comm _ _ h
theorem eV {E:Env} {L:A3} {g:AE} {w:World} {s s':AL} (hI:Inv E g w s) {t:TypeId} {a x:AV} {av xv:Value}
  (ha:V g w a av) (hx:V g w x xv) (h:NQ E L s t a x=some s') :
  ∃id b vs e,(∃off,a=.ptr id off)/\g.blk id=some b/\Ext L g w g (BI w b vs e)/\Inv E g (BI w b vs e) s' /\
   ∀w2:World,w2.heap[b]?=w.heap[b]?->(Instr.storeAt t av xv).run E.P w2=.ok () (BI w2 b vs e):=by
 unfold NQ at h;split at h
 .rename_i id off i hi
  split at h
  .rename_i cs hcs
   simp only at h;split at h
   .rename_i hc
    obtain⟨h1,h2,h3,h4,_,hi0⟩:=hc;simp at h; subst h;simp only[Qn] at hcs;cases ha with
    | KU hd=>
     have:=hI.DI id hd
     grind
    | @ptr _ _ b hb=>
     obtain⟨cs',vs,e,k1,k2,kle,k3⟩:=hI.blk id b hb;rw[hcs] at k1; simp at k1; subst k1;have hv:=EU hx h4;have hone:∀u∈xv.cells.toList,u.oneCell'=true:=VL.one hv h4;have hlen:xv.cells.size=i.size:=by rw[<-G8,<-hv.len]; omega
     obtain⟨q1,q2⟩:=hI.putRow (L:=L) (vs':=CA vs off xv.cells.toList) (cs':=setCells cs off (cellsOf x)) hb k2 (Be _ _ _) h3 (by grind[FF,Be]) (by grind[FF,Ve,VL.setCells]);refine⟨id,b,_,e,⟨off,rfl⟩,hb,q1,q2,λw2 hw2=>?_⟩;simp only[Instr.storeAt,Instr.sureAddr,storeVar,Sem.run_bind,Sem.run_pure,Result.andThen_ok,run_sizeOf hi,hlen,ne_eq,not_true_eq_false,Ht];have:=Fo (P:=E.P) (b:=b) (o:=off) (e:=e) xv.cells.toList 0 w2 vs hone (hw2.trans k2) (by grind);omega
   grind
  grind
 grind
theorem sI {E:Env} {L:A3} {g:AE} {w:World} {s:AL} {ρ:Nat->AV} {a:Act} {o:Oper} {v:AV} (ho:(∃x,o.op=.nilCheck x)\/(∃t x f,o.op=.fieldAddr t x f)\/(∃x,o.op=.move x))
  (hI:Inv E g w s) (hρ:∀t,V g w (ρ t) (a.tmps.getD t undef)) (h:I9 E L ρ s o=some v) :
  ∃v',(∀w2:World,(execOp a.eval o).run E.P w2=.ok (.value v') w2)/\V g w v v':=by
 have h:=Sd h;obtain⟨dst,op,type,pos,after,guard⟩:=o;rcases ho with ⟨x,rfl⟩|⟨t,x,f,rfl⟩|⟨x,rfl⟩
 .simp only[CS] at h
  split at h
  .rename_i u hu
   simp at h; subst h;exact Lz _ rfl hI hρ hu
  grind
 .simp only[CS] at h
  split at h
  .rename_i u hu
   simp at h; subst h;obtain⟨v',hr,hv⟩:=KW hI (Aa hρ x) hu;simp[*,execOp]
  grind
 .simp only[CS,Au,A0] at h
  obtain⟨rfl,_⟩:=h
  simp_all[execOp,Aa]
structure U5 (E:Env) (L:A3) (cf:Cp) (ops:Array Oper) (p:Bd) (K N:Nat) (ρ0 ρf:Nat->AV) (σ:Nat->AL):Prop where
 ACY:∀(i:Nat) o e,ops[i]?=some o->e∈o.after->Region.binds .any e=true->e.on<i
 pre:∀(i:Nat) o j,ops[i]?=some o->j∈Du p i->∃e,e∈o.after/\Region.binds .any e=true/\(e.on=j\/j∈Du p e.on)
 cls:∀(i:Nat) o,ops[i]?=some o->∃c,p.cls[i]?=some c
 dst:∀(i j:Nat) oi oj d,ops[i]?=some oi->ops[j]?=some oj->oi.dst=some d->oj.dst=some d->i=j
 read:∀(i j:Nat) oi oj d,ops[i]?=some oi->ops[j]?=some oj->oj.dst=some d->d∈Gr ops oi++F6 oi ->
  (has (HQ p.GU i) d=true/\(j=i\/i∈Du p j))\/(has (HQ p.GU i) d=false/\j∈Du p i)
 rk:∀(i j:Nat) oi oj r r',ops[i]?=some oi->ops[j]?=some oj->FI p i=some r->FI p j=some r'->r<r'->i∈Du p j
 AEb:∀(i j:Nat) oi oj r,ops[i]?=some oi->ops[j]?=some oj->FI p i=some r->FI p j=some r->i=j
 AIo:∀k,k<K->∃(i:Nat) (o:Oper),ops[i]?=some o/\FI p i=some k
 AIp:∀(i:Nat) o r,ops[i]?=some o->FI p i=some r->r<K
 time:∀(i:Nat) o ts,ops[i]?=some o->(p.cls[i]?=some (.q ts)\/p.cls[i]?=some (.h ts))->∀k,k<=K->k∉ts ->
  ∃(j:Nat) (oj:Oper) (r:Nat),ops[j]?=some oj/\FI p j=some r/\((j∈Du p i/\k<=r)\/(i∈Du p j/\r<k))
 sJ:∀(i:Nat) o r (j x:Nat),ops[i]?=some o->p.cls[i]?=some (.fa r j x)->∃o1 o2 k,ops[j]?=some o1/\ops[x]?=some o2/\p.cls[j]?=some .fj/\p.cls[x]?=some .fx/\fused o o1 o2=some k /\
  HQ p.GU i=[]/\HQ p.GU j=[]/\HQ p.GU x=[]/\i∈Du p j/\j∈Du p x/\i∈Du p x /\
  ∃v,KQ E L ρf (σ r) k=some (v,σ (r+1))/\ρf k.d=v/\ρf k.p=.G2
 win:∀(i:Nat) o r (j x:Nat),ops[i]?=some o->p.cls[i]?=some (.fa r j x)->∀(m:Nat) om,ops[m]?=some om->m≠i->m≠j->m≠x ->
  (m∈Du p i\/x∈Du p m\/Xx ops p m=true)/\∀d,om.dst=some d->(d∈Dz ops j\/d∈Dz ops x)->m∈Du p i
 mu:∀(i:Nat) o r (j x d E9 off len sz:Nat),RK E L ops i j x=true->ops[i]?=some o->p.cls[i]?=some (.fa r j x)->o.dst=some d->ρf d=.ref E9 off len sz->∀(m:Nat) om r' t y z,ops[m]?=some om->p.cls[m]?=some (.w r')->om.op=.store t y z ->
  ∀id off',Ad (Fe p.GU ρ0 ρf m) y=.ptr id off'->id≠E9
 ANt:∀(j:Nat) oj,ops[j]?=some oj->p.cls[j]?=some .fj->∃(i:Nat) (o:Oper) (r x:Nat),ops[i]?=some o/\p.cls[i]?=some (.fa r j x)
 ANu:∀(x:Nat) ox,ops[x]?=some ox->p.cls[x]?=some .fx->∃(i:Nat) (o:Oper) (r j:Nat),ops[i]?=some o/\p.cls[i]?=some (.fa r j x)
 out:∀t,(∀(i:Nat) o,ops[i]?=some o->o.dst≠some t)->ρf t=ρ0 t
 sK:∀(i:Nat) o d,ops[i]?=some o->o.dst=some d->d<N
 wF:∀(i:Nat) o r,ops[i]?=some o->p.cls[i]?=some (.w r)->∃v,NU E L cf ops (Fe p.GU ρ0 ρf i) (σ r) o=some (v,σ (r+1))/\∀d,o.dst=some d->ρf d=v
 qF:∀(i:Nat) o ts k,ops[i]?=some o->p.cls[i]?=some (.q ts)->k∈ts->∃v,E8 E L ops (Fe p.GU ρ0 ρf i) (σ k) o=some v/\∀d,o.dst=some d->ρf d=v
 hF:∀(i:Nat) o ts,ops[i]?=some o->p.cls[i]?=some (.h ts)->o.guard=none/\∃d cs mk id,o.dst=some d/\hcells E (Fe p.GU ρ0 ρf i) o=some (cs,mk)/\ρf d=mk id/\∀k∈ts,(σ k).bs[id]?=some cs
 ANv:∀(i j:Nat) oi oj ts us d e id,ops[i]?=some oi->ops[j]?=some oj->p.cls[i]?=some (.h ts)->p.cls[j]?=some (.h us)->oi.dst=some d->oj.dst=some e->IL (ρf d)=some id->IL (ρf e)=some id->i=j
section
variable {E:Env} {L:A3} {cf:Cp} {ops:Array Oper} {p:Bd} {K N:Nat} {ρ0 ρf:Nat->AV} {σ:Nat->AL}
theorem U5.sL (R:U5 E L cf ops p K N ρ0 ρf σ):∀i o j,ops[i]?=some o->j∈Du p i->j<i:=by
 intro i
 induction i using Nat.strongRecOn with
 | ind i ih=>
  intro o j ho hj;obtain⟨e,he,hb,h⟩:=R.pre i o j ho hj;have hlt:=R.ACY i o e ho he hb
  grind
def Down (ops:Array Oper) (D:Nat->Prop):Prop:=∀(i:Nat) o e,ops[i]?=some o->D i->e∈o.after->Region.binds .any e=true->D e.on
theorem U5.LH (R:U5 E L cf ops p K N ρ0 ρf σ) {D:Nat->Prop} (hD:Down ops D):∀i o j,ops[i]?=some o->(∀e∈o.after,Region.binds .any e=true->D e.on)->j∈Du p i->D j:=by
 intro i
 induction i using Nat.strongRecOn with
 | ind i ih=>
  intro o j ho hr hj;obtain⟨e,he,hb,h⟩:=R.pre i o j ho hj;have hlt:=R.ACY i o e ho he hb;have hde:=hr e he hb;rcases h with rfl|h
  .omega
  .obtain⟨oe,hoe⟩:∃oe,ops[e.on]?=some oe:=⟨ops[e.on]'(by grind),by simp⟩
   exact ih e.on hlt oe j hoe (λe' he' hb'=>hD e.on oe e' hoe hde he' hb') h
theorem U5.L1 (R:U5 E L cf ops p K N ρ0 ρf σ) {D:Nat->Prop} (hD:Down ops D) {i j:Nat} {o:Oper} (ho:ops[i]?=some o) (hi:D i) (hj:j∈Du p i):D j:=
 R.LH hD i o j ho (λe he hb=>hD i o e ho hi he hb) hj
open Classical in
noncomputable def rho (ops:Array Oper) (ρ0 ρf:Nat->AV) (D:Nat->Prop) (t:Nat):AV:=if ∃(i:Nat) (o:Oper),ops[i]?=some o/\o.dst=some t/\D i then ρf t else ρ0 t
theorem Sj {D:Nat->Prop} {t i:Nat} {o:Oper} (ho:ops[i]?=some o) (hd:o.dst=some t) (hi:D i):rho ops ρ0 ρf D t=ρf t:=if_pos ⟨i,o,ho,hd,hi⟩
theorem Ry {D:Nat->Prop} {t:Nat} (h:∀(i:Nat) (o:Oper),ops[i]?=some o->o.dst=some t->¬ D i):rho ops ρ0 ρf D t=ρ0 t:=if_neg (λ⟨i,o,ho,hd,hi⟩=>h i o ho hd hi)
theorem U5.Sk (R:U5 E L cf ops p K N ρ0 ρf σ) {D:Nat->Prop} {t:Nat} (h:∀(i:Nat) (o:Oper),ops[i]?=some o->o.dst≠some t):rho ops ρ0 ρf D t=ρf t:=by
 rw[Ry (λi o ho hd=>absurd hd (h i o ho)),R.out t h]
theorem U5.agree (R:U5 E L cf ops p K N ρ0 ρf σ) {D:Nat->Prop} (hD:Down ops D) {i:Nat} {o:Oper} (ho:ops[i]?=some o) (hn:¬ D i) (hr:∀e∈o.after,Region.binds .any e=true->D e.on) :
  ∀t∈Gr ops o++F6 o,rho ops ρ0 ρf D t=Fe p.GU ρ0 ρf i t:=by
 intro t ht;unfold Fe
 by_cases hw:∃(j:Nat) (oj:Oper),ops[j]?=some oj/\oj.dst=some t
 .obtain⟨j,oj,sM,sN⟩:=hw
  rcases R.read i j o oj t ho sM sN ht with ⟨h1,h2⟩|⟨h1,h2⟩
  .rw[h1,AN]
   refine Ry λk ok hok hdk hDk=>?_
   have:k=j:=R.dst k j ok oj t hok sM hdk sN;subst this;rcases h2 with rfl|h2
   .grind
   .exact hn (R.L1 hD hok hDk h2)
  .rw[h1,AH]
   exact Sj sM sN (R.LH hD i o j ho hr h2)
 .have hno:∀(j:Nat) (oj:Oper),ops[j]?=some oj->oj.dst≠some t:=λj oj sM sN=>hw ⟨j,oj,sM,sN⟩
  rw[R.Sk hno];cases has (HQ p.GU i) t with
  | true=>rw[AN,R.out t hno]
  | false=>rfl
end
def Open (P:Program) (q:AV) (X:Prop) (kf:I7) (Dj:Prop) (a:Act) (g:AE) (w wv:World):Prop:=
 ∃(b cap len:Nat) (vz:List Value) (e:TypeId) (fz:Nat×Nat) (xv:Value) (kk:IntKind) (elem:TypeId) (ti:TypeInfo),
  P.underlying kf.t=some (.slice elem)/\P.info? elem=some ti/\kf.te=elem /\
  a.eval (.tmp kf.d)=.slice (some ⟨b,0,none⟩) (len+1) cap/\a.eval kf.ix=.int kk (len:Int)/\a.eval kf.v=xv/\xv.cells.size=ti.size/\(∀u∈xv.cells.toList,u.oneCell'=true) /\
  wv.heap[b]?=some (.cells ⟨CA vz (len*ti.size) xv.cells.toList⟩ e fz)/\w=BI wv b vz e fz/\(len*ti.size+ti.size<=vz.length/\fz.2<=len*ti.size)/\((∃k l,g.tok k=some l/\l.b=b)\/∃E9 off n sz,q=.ref E9 off n sz/\g.blk E9=some b/\X) /\
  (Dj->a.eval (.tmp kf.p)=.pointer (some ⟨b,len*ti.size,none⟩))
def M1 (ops:Array Oper) (p:Bd) (D:Nat->Prop) (i:Nat):Prop:=∀(i':Nat) o' r' (j' x':Nat),ops[i']?=some o'->p.cls[i']?=some (.fa r' j' x')->D i'->i'≠i->D x'
def Window (E:Env) (L:A3) (ρf:Nat->AV) (ops:Array Oper) (p:Bd) (D:Nat->Prop) (a:Act) (g:AE) (w wv:World):Prop:=
 (w=wv/\∀i,M1 ops p D i) \/
 ∃(i:Nat) (o:Oper) (r j x:Nat) (o1 o2:Oper) (kf:I7),ops[i]?=some o/\p.cls[i]?=some (.fa r j x)/\ops[j]?=some o1/\ops[x]?=some o2/\fused o o1 o2=some kf/\D i/\¬ D x /\
  M1 ops p D i/\Open E.P (ρf kf.d) (RK E L ops i j x=true) kf (D j) a g w wv
structure Core (E:Env) (L:A3) (ops:Array Oper) (p:Bd) (K N:Nat) (ρ0 ρf:Nat->AV) (σ:Nat->AL) (ds:List Deferred) (g0:AE) (w0:World) (D:Nat->Prop) (a:Act) (k:Nat) (g:AE) (wv:World):Prop where
 kK:k<=K
 time:∀(i:Nat) o r,ops[i]?=some o->FI p i=some r->(D i<->r<k)
 size:a.tmps.size=N
 defers:a.defers=ds
 ext:Ext L g0 w0 g wv
 inv:Inv E g wv (σ k)
 tmps:∀t,V g wv (rho ops ρ0 ρf D t) (a.tmps.getD t undef)
 C4:∀(i:Nat) o ts d id,ops[i]?=some o->p.cls[i]?=some (.h ts)->o.dst=some d->IL (ρf d)=some id->¬ D i->g.C4 id
def J (E:Env) (L:A3) (ops:Array Oper) (p:Bd) (K N:Nat) (ρ0 ρf:Nat->AV) (σ:Nat->AL) (ds:List Deferred) (g0:AE) (w0:World) (D:Nat->Prop) (a:Act) (w:World):Prop:=
 ∃k g wv,Core E L ops p K N ρ0 ρf σ ds g0 w0 D a k g wv/\Window E L ρf ops p D a g w wv
theorem Sl (a:Act) (d:Option Tmp) (v:Value):(a.put d v).tmps.size=a.tmps.size:=by cases d <;> simp[Act.put]
theorem put_defers (a:Act) (d:Option Tmp) (v:Value):(a.put d v).defers=a.defers:=by cases d <;> rfl
theorem JJ {a:Act} {d:Nat} {v:Value} (h:d<a.tmps.size):(a.put (some d) v).tmps.getD d undef=v:=by simp[Act.put,h]
theorem Pk {a:Act} {d:Option Tmp} {v:Value} {t:Nat} (h:d≠some t):(a.put d v).tmps.getD t undef=a.tmps.getD t undef:=by
 cases d with
 | none=>rfl
 | some d=>
  simp_all[Act.put]
section
variable {E:Env} {L:A3} {cf:Cp} {ops:Array Oper} {p:Bd} {K N:Nat} {ρ0 ρf:Nat->AV} {σ:Nat->AL} {ds:List Deferred} {g0:AE} {w0:World}
theorem Core.push (R:U5 E L cf ops p K N ρ0 ρf σ) {D:Nat->Prop} {a:Act} {k k':Nat} {g g':AE} {wv wv':World} (h:Core E L ops p K N ρ0 ρf σ ds g0 w0 D a k g wv) {m:Nat} {om:Oper} (hm:ops[m]?=some om)
  (hk:(FI p m=none/\k'=k)\/(FI p m=some k/\k'=k+1)) (AVG:Ext L g0 w0 g' wv') (hmono:∀x u,V g wv x u->V g' wv' x u) (hinv:Inv E g' wv' (σ k')) {v':Value}
  (hv:∀d,om.dst=some d->V g' wv' (ρf d) v')
  (ANw:∀(i:Nat) o ts d id,ops[i]?=some o->p.cls[i]?=some (.h ts)->o.dst=some d->IL (ρf d)=some id->¬ D i->i≠m->g'.C4 id) :
  Core E L ops p K N ρ0 ρf σ ds g0 w0 (λi=>D i\/i=m) (a.put om.dst v') k' g' wv' where
 kK:=by
  rcases hk with ⟨_,rfl⟩|⟨h1,rfl⟩
  .exact h.kK
  .exact R.AIp m om k hm h1
 time:=λi o r ho hr=>by
  have ht:=h.time i o r ho hr;rcases hk with ⟨h1,rfl⟩|⟨h1,rfl⟩
  .grind
  .by_cases hi:i=m
   .grind
   .have:r≠k:=λe=>hi (R.AEb i m o om r ho hm hr (e ▸ h1))
    grind
 size:=by rw[Sl]; exact h.size
 defers:=by rw[put_defers]; exact h.defers
 ext:=AVG
 inv:=hinv
 tmps:=λt=>by
  by_cases ht:om.dst=some t
  .rw[Sj hm ht (.inr rfl),ht,JJ (by rw[h.size]; exact R.sK m om t hm ht)]
   grind
  .rw[Pk ht]
   have:rho ops ρ0 ρf (λi=>D i\/i=m) t=rho ops ρ0 ρf D t:=by
    by_cases hx:∃(i:Nat) (o:Oper),ops[i]?=some o/\o.dst=some t/\D i
    all_goals grind[Sj,Ry]
   rw[this];exact hmono _ _ (h.tmps t)
 C4:=λi o ts d id ho hc hd hid hn=>ANw i o ts d id ho hc hd hid (λx=>hn (.inl x)) (λx=>hn (.inr x))
theorem Core.now (R:U5 E L cf ops p K N ρ0 ρf σ) {D:Nat->Prop} {a:Act} {k:Nat} {g:AE} {wv:World} (h:Core E L ops p K N ρ0 ρf σ ds g0 w0 D a k g wv) (hD:Down ops D) {m r:Nat} {om:Oper} (hm:ops[m]?=some om) (hn:¬ D m)
  (hr:∀e∈om.after,Region.binds .any e=true->D e.on) (Zk:FI p m=some r):r=k:=by
 have h1:k<=r:=by
  rcases FX r k with x|x
  .exact absurd ((h.time m om r hm Zk).2 x) hn
  omega
 rcases FX k r with x|x
 .obtain⟨i,o,ho,hi⟩:=R.AIo k (by have:=R.AIp m om r hm Zk; omega)
  have:=(h.time i o k ho hi).1 (R.LH hD m om i hm hr (R.rk i m o om k r ho hm hi Zk x));omega
 omega
theorem Core.sO (R:U5 E L cf ops p K N ρ0 ρf σ) {D:Nat->Prop} {a:Act} {k:Nat} {g:AE} {wv:World} (h:Core E L ops p K N ρ0 ρf σ ds g0 w0 D a k g wv) (hD:Down ops D) {m:Nat} {om:Oper} {ts:List Nat} (hm:ops[m]?=some om) (hn:¬ D m)
  (hr:∀e∈om.after,Region.binds .any e=true->D e.on) (hc:p.cls[m]?=some (.q ts)\/p.cls[m]?=some (.h ts)):k∈ts:=by
 rcases Classical.em (k∈ts) with x|x
 .exact x
 .obtain⟨j,oj,r,sM,Zk,h1|h1⟩:=R.time m om ts hm hc k h.kK x
  .have:=(h.time j oj r sM Zk).1 (R.LH hD m om j hm hr h1.1)
   omega
  .exact absurd (R.L1 hD sM ((h.time j oj r sM Zk).2 h1.2) h1.1) hn
theorem M1.more {D:Nat->Prop} {m i:Nat} {om:Oper} (hm:ops[m]?=some om) (hnf:∀r j x,p.cls[m]?≠some (.fa r j x)) (h:M1 ops p D i):M1 ops p (λi=>D i\/i=m) i:=by
 intro i' o' r' j' x' ho hc hi hne;rcases hi with hi|rfl
 .exact .inl (h i' o' r' j' x' ho hc hi hne)
 grind
end
theorem KY {rd:Option Nat} {P:Program} {ops:Array Oper} {Q:Exit->Act->World->Prop} {m:Nat} {om:Oper} {K:Act->World->Prop} {a:Act} {w:World} (hm:ops[m]?=some om)
  (hw:Region.wanted om (yielded ops a.tmps)=true) (h:om.wpIn (FW rd) 0 P a w K Q):wpOpIn (FW rd) 0 P ops Q m K a w:=by grind[wpOpIn]
theorem Rz {rd:Option Nat} {P:Program} {ops:Array Oper} {Q:Exit->Act->World->Prop} {m:Nat} {om:Oper} {K:Act->World->Prop} {a:Act} {w:World} (hm:ops[m]?=some om)
  (hw:Region.wanted om (yielded ops a.tmps)=false) (h:K (a.put om.dst undef) w):wpOpIn (FW rd) 0 P ops Q m K a w:=by
 simp only[wpOpIn,hm,hw,DD,Ht];exact⟨λ_ _=>trivial,h⟩
theorem Mi {rd:Option Nat} {P:Program} {ops:Array Oper} {Q:Exit->Act->World->Prop} {m:Nat} {om:Oper} {K:Act->World->Prop} {a:Act} {w w':World} {v:Value} (hm:ops[m]?=some om)
  (hg:om.guard=none) (hr:(execOp a.eval om).run P w=.ok (.value v) w') (h:K (a.put om.dst v) w'):wpOpIn (FW rd) 0 P ops Q m K a w:=
 KY hm (by grind[Region.wanted]) (Jt hr h)
theorem Zl {E:Env} {L:A3} {cf:Cp} {ρ:Nat->AV} {s:AL} {o:Oper} {v:AV} (h:I9 E L ρ s o=some v):NT E L cf ρ s o=some (v,s):=by grind[Sd,OT,nj,CS]
theorem F7 {o o1 o2:Oper} {kf:I7} (h:fused o o1 o2=some kf) :
  o.op=.call { callee:=.builtin .append,args:=#[kf.x,kf.y],argTypes:=#[kf.t,kf.t] }/\o.dst=some kf.d/\o1.op=.indexAddr kf.t (.tmp kf.d) kf.ix/\o1.dst=some kf.p /\
  o2.op=.store kf.te (.tmp kf.p) kf.v/\o2.dst=none/\kf.d≠kf.p/\(o.guard=none/\o1.guard=none/\o2.guard=none)/\kf.ix≠.tmp kf.d/\kf.v≠.tmp kf.d/\kf.v≠.tmp kf.p:=by
 unfold fused at h;split at h
 .rename_i args ts d t1 d1 ix p te p1 v ho hd ho1 hd1 qx Sm
  split at h
  .rename_i x y t t' ha ht
   split at h
   .rename_i hc
    obtain⟨rfl,rfl,rfl,rfl,hne,g1,g2,g3,h1,h2,h3,_⟩:=hc;simp at h;subst h;have J8:args=#[x,y]:=by rw[<-F1 (xs:=args),ha]
    have ht':ts=#[t',t']:=by rw[<-F1 (xs:=ts),ht]
    subst J8 ht';have hn:∀(z:Operand) (q:Nat),Ld z q=false->z≠.tmp q:=λz q hz e=>by simp_all[Ld]
    simp_all
   grind
  grind
 grind
theorem Qr {o o1 o2:Oper} {kf:I7} (h:fused o o1 o2=some kf):∀z,z=kf.x\/z=kf.y\/z=kf.ix\/z=kf.v->z≠.tmp kf.d/\z≠.tmp kf.p:=by
 unfold fused at h;split at h
 .split at h
  .split at h
   .rename_i hc
    obtain⟨rfl,rfl,rfl,rfl,hne,g1,g2,g3,h1,h2,h3,h4,h5,h6,h7,h8⟩:=hc;simp at h;subst h;have hn:∀(z:Operand) (q:Nat),Ld z q=false->z≠.tmp q:=λz q hz e=>by simp_all[Ld]
    grind
   grind
  grind
 grind
theorem EM {a:Act} {d:Option Tmp} {v:Value} {z:Operand} (h:∀t,z=.tmp t->d≠some t):(a.put d v).eval z=a.eval z:=by
 cases z with
 | tmp t=>exact Pk (h t rfl)
 | const c=>rfl
 | global g=>rfl
 | func f=>rfl
section
variable {rd:Option Nat} {E:Env} {L:A3} {cf:Cp} {ops:Array Oper} {p:Bd} {K N:Nat} {ρ0 ρf:Nat->AV} {σ:Nat->AL} {ds:List Deferred} {g0:AE} {w0:World} {Q:Exit->Act->World->Prop}
theorem J9 {m r:Nat} (h:p.cls[m]?=some (.w r)):FI p m=some r:=by grind[FI,Jq]
theorem Ju {m r j x:Nat} (h:p.cls[m]?=some (.fa r j x)):FI p m=some r:=by grind[FI,Jq]
theorem Pm {m:Nat} {ts:List Nat} (h:p.cls[m]?=some (.q ts)):FI p m=none:=by grind[FI,Jq]
theorem sP {m:Nat} {ts:List Nat} (h:p.cls[m]?=some (.h ts)):FI p m=none:=by grind[FI,Jq]
theorem ji {m:Nat} (h:p.cls[m]?=some .fj):FI p m=none:=by grind[FI,Jq]
theorem jk {m:Nat} (h:p.cls[m]?=some .fx):FI p m=none:=by grind[FI,Jq]
theorem U5.AIq (R:U5 E L cf ops p K N ρ0 ρf σ) {D:Nat->Prop} (hD:Down ops D) {m r j x:Nat} {om:Oper} (hm:ops[m]?=some om) (hc:p.cls[m]?=some (.fa r j x)) (hr:∀e∈om.after,Region.binds .any e=true->D e.on)
  {o1 o2:Oper} {kf:I7} (h1:ops[j]?=some o1) (h2:ops[x]?=some o2) (hf:fused om o1 o2=some kf) (w1:HQ p.GU m=[]) (w2:HQ p.GU j=[]) :
  ∀z,z=kf.x\/z=kf.y\/z=kf.ix\/z=kf.v->Ad ρf z=Ad (rho ops ρ0 ρf D) z:=by
 obtain⟨f1,f2,f3,f4,f5,f6,f7,f8,f9,f10,f11⟩:=F7 hf;intro z hz;refine Jr λt ht=>?_
 subst ht
 by_cases hw:∃(i:Nat) (o:Oper),ops[i]?=some o/\o.dst=some t
 .obtain⟨i,oi,R1,oC⟩:=hw
  have hpre:i∈Du p m:=by
   by_cases hxy:Operand.tmp t=kf.x\/Operand.tmp t=kf.y
   .have:t∈F6 om:=DU.2 (by grind[Op.operands,Call.operands])
    rcases R.read m i om oi t hm R1 oC (Ib _ this) with ⟨q1,_⟩|⟨_,q2⟩
    all_goals grind[has]
   .have hiv:Operand.tmp t=kf.ix\/Operand.tmp t=kf.v:=by grind
    by_cases e1:i=m
    .grind
    by_cases e2:i=j
    .subst e2
     rw[h1] at R1; simp at R1; subst R1;rw[f4] at oC; simp at oC; subst oC;rcases hiv with e|e
     .have:kf.p∈F6 o1:=DU.2 (by grind[Op.operands])
      rcases R.read i i o1 o1 kf.p h1 h1 f4 (Ib _ this) with ⟨q1,_⟩|⟨_,q2⟩
      .grind[has]
      .exact absurd (R.sL i o1 i h1 q2) (OG _)
     grind
    by_cases e3:i=x
    .grind
    refine(R.win m om r j x hm hc i oi R1 e1 e2 e3).2 t oC ?_
    grind[Dz,DU,Op.operands]
  exact(Sj R1 oC (R.LH hD m om i hm hr hpre)).symm
 .exact(R.Sk λi o ho hd=>hw ⟨i,o,ho,hd⟩).symm
theorem Zm (R:U5 E L cf ops p K N ρ0 ρf σ) (Rx:Hg E L cf) {D:Nat->Prop} (hD:Down ops D) {a:Act} {k:Nat} {g:AE} {w:World} (h:Core E L ops p K N ρ0 ρf σ ds g0 w0 D a k g w) (hsh:∀i,M1 ops p D i)
  (hnp:∀(i:Nat) o ts d id,ops[i]?=some o->p.cls[i]?=some (.h ts)->o.dst=some d->IL (ρf d)=some id->¬ g0.C4 id)
  {m:Nat} {om:Oper} (hm:ops[m]?=some om) (hn:¬ D m) (hr:∀e∈om.after,Region.binds .any e=true->D e.on) :
  wpOpIn (FW rd) 0 E.P ops Q m (J E L ops p K N ρ0 ρf σ ds g0 w0 (λi=>D i\/i=m)) a w:=by
 have hag:=R.agree hD hm hn hr;obtain⟨c,hc⟩:=R.cls m om hm;have sQ:(∀r j x,p.cls[m]?≠some (.fa r j x))->∀i,M1 ops p (λi=>D i\/i=m) i:=λhnf i=>M1.more hm hnf (hsh i)
 have Eo:∀(g':AE),(∀id,g.C4 id->g'.C4 id)->∀(i:Nat) o ts d id,ops[i]?=some o->p.cls[i]?=some (.h ts)->o.dst=some d->IL (ρf d)=some id->¬ D i->i≠m->g'.C4 id:=
  λg' hg i o ts d id ho HS hd hid hnD _=>hg id (h.C4 i o ts d id ho HS hd hid hnD)
 cases c with
 | w r=>
  have hk:=h.now R hD hm hn hr (J9 hc);subst hk;obtain⟨v,hact,hv⟩:=R.wF m om r hm hc;rw[<-Na hag] at hact;unfold NU at hact;have hs:=sQ (λ_ _ _ e=>by grind);split at hact
  .rename_i hg
   refine KY hm (DK h.tmps hg) (Nc Rx h.inv h.tmps hact λv' w' g' hV hE hI=>?_);exact⟨r+1,g',w',h.push R hm (.inr ⟨J9 hc,rfl⟩) (h.ext.trans hE) (λ_ _ q=>q.mono hE) hI (λd hd=>by grind) (Eo g' hE.C4),.inl ⟨rfl,hs⟩⟩
  .rename_i hg
   simp only[Au,A0] at hact;obtain⟨rfl,hst⟩:=hact;refine Rz hm (DK h.tmps hg) ?_;exact⟨r+1,g,w,h.push R hm (.inr ⟨J9 hc,rfl⟩) h.ext (λ_ _ q=>q) (hst ▸ h.inv) (λd hd=>by grind[V.undef]) (Eo g λ_ q=>q),.inl ⟨rfl,hs⟩⟩
  grind
 | q ts=>
  obtain⟨v,hq,hv⟩:=R.qF m om ts k hm hc (h.sO R hD hm hn hr (.inl hc));rw[<-Il hag] at hq;unfold E8 at hq;have hs:=sQ (λ_ _ _ e=>by grind);split at hq
  .rename_i hg
   refine KY hm (DK h.tmps hg) (Nc Rx h.inv h.tmps (Zl hq) λv' w' g' hV hE hI=>?_);exact⟨k,g',w',h.push R hm (.inl ⟨Pm hc,rfl⟩) (h.ext.trans hE) (λ_ _ q=>q.mono hE) hI (λd hd=>by grind) (Eo g' hE.C4),.inl ⟨rfl,hs⟩⟩
  .rename_i hg
   simp only[Au] at hq;subst hq;refine Rz hm (DK h.tmps hg) ?_;exact⟨k,g,w,h.push R hm (.inl ⟨Pm hc,rfl⟩) h.ext (λ_ _ q=>q) h.inv (λd hd=>by grind[V.undef]) (Eo g λ_ q=>q),.inl ⟨rfl,hs⟩⟩
  grind
 | h ts=>
  obtain⟨hg,d,cs,mk,id,hd,hh,hmk,nw⟩:=R.hF m om ts hm hc;have hcs:=nw k (h.sO R hD hm hn hr (.inr hc));rw[<-OX (λt ht=>hag t (Ib _ ht))] at hh;obtain⟨vs,e,mv,hrun,hvl,hV,hid⟩:=X3 h.tmps hh;have ANy:g.C4 id:=h.C4 m om ts d id hm hc hd (by grind) hn;obtain⟨p1,p2,p3⟩:=h.inv.DM id ANy;obtain⟨e2,i2⟩:=h.inv.fill (L:=L) (id:=id) (q:=λi=>g.C4 i/\i≠id) (cs:=cs) (vs:=vs) (λ_=>Iff.rfl) e p1 p2 p3 (λb hb=>(h.inv.J6 id b hb).2.2 ANy) hcs hvl.full.1 hvl.full.2;have e1:Ext L g0 w0 (g.B7 λi=>g.C4 i/\i≠id) w:=h.ext.B7 λi hi=>⟨h.ext.C4 i hi,λq=>hnp m om ts d id hm hc hd (by grind) (q ▸ hi)⟩
  refine Mi hm hg hrun ⟨k,_,_,h.push R hm (.inl ⟨sP hc,rfl⟩) (e1.trans e2) (λ_ _ q=>q.B7.mono e2) i2 (λd' hd'=>?_) ?_,.inl ⟨rfl,sQ (λ_ _ _ e=>by grind)⟩⟩
  .rw[hd] at hd'; simp at hd'; subst hd'
   rw[hmk];exact hV _ _ id w.heap.size (by simp[AE.Fi]) (Bh (by rw[Bv]; exact if_pos rfl))
  .intro i o ts' d' id' ho HS oC ANz hnD hne
   refine⟨h.C4 i o ts' d' id' ho HS oC ANz hnD,λq=>hne ?_⟩;subst q;exact R.ANv i m o om ts' ts d' d id' ho hm HS hc oC hd ANz (by grind)
 | fa r j x=>
  have hk:=h.now R hD hm hn hr (Ju hc);subst hk;obtain⟨o1,o2,kf,h1,h2,c1,c2,hf,w1,w2,w3,p1,p2,p3,v,OZ,hvd,hvp⟩:=R.sJ m om r j x hm hc;have ACa:=R.AIq hD hm hc hr h1 h2 hf w1 w2;obtain⟨f1,f2,f3,f4,f5,f6,f7,f8,f9,f10,f11⟩:=F7 hf;have hVx:=Aa h.tmps kf.x;have hVy:=Aa h.tmps kf.y;have hVi:=Aa h.tmps kf.ix;have hVv:=Aa h.tmps kf.v;rw[<-ACa _ (.inl rfl)] at hVx;rw[<-ACa _ (.inr (.inl rfl))] at hVy;rw[<-ACa _ (.inr (.inr (.inl rfl)))] at hVi;rw[<-ACa _ (.inr (.inr (.inr rfl)))] at hVv;cases sB:I8 E L ρf (σ r) kf with
  | some res=>
   have OZ:I8 E L ρf (σ r) kf=some (v,σ (r+1)):=by grind[KQ]
   unfold I8 at OZ;split at OZ
   .rename_i elem hu
    split at OZ
    .rename_i Xq
     split at OZ
     .rename_i ti rows z n row eB hrows hz qy hrow
      split at OZ
      .rename_i hcnd
       obtain⟨q1,q2,q3,q4,q5,q6,q7⟩:=hcnd;have hvl:=EU hVv q4;obtain⟨t1,t2⟩:=Gn hvl hrow;obtain⟨b,cap,vz,e,fz,w1',wv',g',a1,a2,a3,a4,a5,a6,a7,a8⟩:=Ly (T:=om.type) h.inv hu eB q6 q7 hVx hrows hVy hz q2 q5 (us:=(a.eval kf.v).cells.toList) (by omega) q3 t2 OZ;obtain⟨kk,SW⟩:=FB hVi qy;have hrun:(execOp a.eval om).run E.P w=.ok (.value (.slice (some ⟨b,0,none⟩) (rows.length+1) cap)) w1':=by simp[*,execOp,resolve,invoke,builtin]
       have hnj:¬ (D j\/j=m):=λq=>q.elim (λq=>hn (R.L1 hD h1 q p1)) (λq=>by grind)
       have hnx:¬ (D x\/x=m):=λq=>q.elim (λq=>hn (R.L1 hD h2 q p3)) (λq=>by grind)
       refine Mi hm f8.1 hrun ⟨r+1,g',wv',h.push R hm (.inr ⟨Ju hc,rfl⟩) (h.ext.trans a3) (λ_ _ q=>q.mono a3) a4 (λd hd=>?_) (Eo g' a3.C4),.inr ?_⟩
       .grind
       .refine⟨m,om,r,j,x,o1,o2,kf,hm,hc,h1,h2,hf,.inr rfl,hnx,?_,b,cap,rows.length,vz,e,fz,a.eval kf.v,kk,elem,ti,hu,eB,Xq.2,?_,?_,?_,?_,?_,a5,a6,?_,.inl a8,λq=>absurd q hnj⟩
        .intro i' o' r' j' x' ho' KZ hi' hne
         rcases hi' with hi' | hi'
         .exact .inl (hsh m i' o' r' j' x' ho' KZ hi' hne)
         omega
        .rw[f2]; exact JJ (by rw[h.size]; exact R.sK m om kf.d hm f2)
        .grind[EM]
        all_goals grind[EM,VL.one]
      grind
     grind
    grind
   grind
  | none=>
   unfold KQ at OZ;rw[sB] at OZ;simp only at OZ;unfold Vb at OZ;split at OZ
   .rename_i elem hu
    split at OZ
    .rename_i Xq
     split at OZ
     .rename_i ti id off len sz n eB hxe qy
      split at OZ
      .rename_i zs old hzs hold
       split at OZ
       .rename_i hcnd
        obtain⟨q1,q2,q3,q4,q5,q6,q7,rfl,rfl,q8,q9,q10,q11,q12⟩:=hcnd;simp only[Au,A0] at OZ;obtain⟨hfv,hfs⟩:=OZ;have hvl:=EU hVv q4;rw[hxe] at hVx;obtain⟨b,cap,vz,e,fz,w1',wv',g',a1,a2,a3,a4,a5,a6,a7,a8⟩:=eU (L:=L) (T:=om.type) h.inv hu eB q6 q7 hVx hVy hzs q2 q5 hold q8 q9 q10 q11 q12 (us:=(a.eval kf.v).cells.toList) (by rw[<-hvl.len]; omega) hvl;rw[hfs] at a4;obtain⟨kk,SW⟩:=FB hVi qy;have hrun:(execOp a.eval om).run E.P w=.ok (.value (.slice (some ⟨b,0,none⟩) (len+1) cap)) w1':=by simp[*,execOp,resolve,invoke,builtin]
        have hnj:¬ (D j\/j=m):=λq=>q.elim (λq=>hn (R.L1 hD h1 q p1)) (λq=>by grind)
        have hnx:¬ (D x\/x=m):=λq=>q.elim (λq=>hn (R.L1 hD h2 q p3)) (λq=>by grind)
        refine Mi hm f8.1 hrun ⟨r+1,g',wv',h.push R hm (.inr ⟨Ju hc,rfl⟩) (h.ext.trans a3) (λ_ _ q=>q.mono a3) a4 (λd hd=>?_) (Eo g' a3.C4),.inr ?_⟩
        .grind
        .refine⟨m,om,r,j,x,o1,o2,kf,hm,hc,h1,h2,hf,.inr rfl,hnx,?_,b,cap,len,vz,e,fz,a.eval kf.v,kk,elem,ti,hu,eB,Xq.2,?_,?_,?_,?_,?_,a5,a6,?_,.inr ⟨_,_,_,_,by rw[hvd]; exact hfv.symm,a8,by grind[RK]⟩,λq=>absurd q hnj⟩
         .intro i' o' r' j' x' ho' KZ hi' hne
          rcases hi' with hi' | hi'
          .exact .inl (hsh m i' o' r' j' x' ho' KZ hi' hne)
          omega
         .rw[f2]; exact JJ (by rw[h.size]; exact R.sK m om kf.d hm f2)
         .grind[EM]
         .grind[EM]
         .rw[<-G8,<-hvl.len]; omega
         .grind[VL.one]
         .have:=a7; rw[<-hvl.len,q3] at this; omega
       grind
      grind
     grind
    grind
   grind
 | fj=>
  obtain⟨i,o,r,x,ho,HS⟩:=R.ANt m om hm hc;obtain⟨o1,o2,kf,h1,h2,c1,c2,hf,w1,w2,w3,p1,p2,p3,_⟩:=R.sJ i o r m x ho HS;have oE:=R.LH hD m om i hm hr p1;have hDx:=hsh m i o r m x ho HS oE (λe=>by grind);exact absurd (R.L1 hD h2 hDx p2) hn
 | fx=>
  obtain⟨i,o,r,j,ho,HS⟩:=R.ANu m om hm hc;obtain⟨o1,o2,kf,h1,h2,c1,c2,hf,w1,w2,w3,p1,p2,p3,_⟩:=R.sJ i o r j m ho HS;have oE:=R.LH hD m om i hm hr p3;exact absurd (hsh m i o r j m ho HS oE (λe=>by grind)) hn
end
end Go.Tel
