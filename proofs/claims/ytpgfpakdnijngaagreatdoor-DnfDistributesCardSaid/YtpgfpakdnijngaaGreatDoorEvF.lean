/-
  A row that is appended as zero and then written: the world meanwhile.
-/
import Derived.Test.YtpgfpakdnijngaaGreatDoorEvE
set_option linter.unusedSimpArgs false
set_option linter.unusedVariables false
namespace Go.Tel
theorem oS (us:List Value):∀ (vs vs':List Value) (k:Nat),vs.length=vs'.length->(∀ q,(q<k\/k+us.length<=q)->vs[q]?=vs'[q]?)->Bt vs k us=Bt vs' k us:=by
 induction us with
 | nil=>intro vs vs' k hl h; simp only[Bt]; exact K8 fun q=>h q (by simp; omega)
 | cons u us ih=>
  intro vs vs' k hl h;simp only[Bt];refine ih _ _ _ (by simpa using hl) fun q hq=>?_
  rw[Wv,Wv,hl];split
  ·rfl
  ·exact h q (by simp; omega)
theorem VR (us zs:List Value) (h:zs.length=us.length) (vs:List Value) (k:Nat):Bt (Bt vs k zs) k us=Bt vs k us:=
 oS us _ _ k (BJ _ _ _) fun _ hq=>Ef _ _ _ _ (by omega)
theorem oT (us:List Value):∀ (os r:List Value),r.length=us.length->∀ rest,Bt (os++r++rest) os.length us=os++us++rest:=by
 intro os r hr rest;apply K8;intro q;rcases CU q os.length with a|a
 ·rw[Ef _ _ _ _ (.inl a)]
  simp[List.getElem?_append,a]
 ·rcases CU q (os.length+us.length) with b|b
  ·obtain⟨j,rfl⟩:∃ j,q=os.length+j:=⟨q-os.length,by omega⟩
   have hj:j<us.length:=by omega
   rw[FK us _ os.length j us[j] (by simp[hj]) (by simp; omega)];rw[DI,CV (by omega),BA (by omega)];simp[hj]
  ·rw[Ef _ _ _ _ (.inr b)]
   rw[CV (by simp; omega),CV (by simp; omega)];simp[hr]
theorem SX {os rest:List Value} (zs us:List Value) (h:zs.length=us.length):Bt (os++zs++rest) os.length us=os++us++rest:=oT us os zs h rest
theorem Gm {w:World} {vs us:List Value} {e:TypeId}:A2 (CO w vs e) w.heap.size us e=CO w us e:=by
 refine Ho ?_ rfl rfl rfl rfl;apply Mi;intro k;rw[BR,Bm];simp only[Bm]
 by_cases hk:w.heap.size=k
 ·subst hk; simp[CO]
 ·rw[if_neg hk,if_neg (Ce hk),if_neg (Ce hk)]
theorem VP.one {I:Nat->Nat->Prop} {w:World} {p:PV} {u:Value} (g:AH) (hg:g.I=I) (h:VP I w p u) (ho:Ar (.pv p)=true):u.oneCell'=true:=by
 subst hg;exact JV (.pv h) ho
theorem Flat.one {I:Nat->Nat->Prop} {w:World} {z:List PV} {us:List Value} (g:AH) (hg:g.I=I) (h:Flat I w [z] z.length us) (ho:(z.map AV.pv).all Ar=true):∀ u∈us,u.oneCell'=true:=by
 intro u hu;obtain⟨j,hj,rfl⟩:=OK.1 hu;have hlen:=h.len;simp at hlen;obtain⟨u',h1,h2⟩:=h.at_ 0 z j z[j] rfl (by simp);simp at h1;have:u'=us[j]:=by rw[Ak hj] at h1; simpa using h1.symm
 subst this;exact VP.one g hg h2 (Bs.1 ho _ (Bb.2 ⟨z[j],by simp,rfl⟩))
theorem MD {E:Env} {L:A0} {g:AH} {w:World} {s s':AK} (hI:Inv E g w s) {t elem T:TypeId} {i:TypeInfo} {x y v:AV} {xv yv:Value} {rows:List (List PV)} {z row:List PV} {us:List Value}
  (ht:E.P.underlying t=some (.slice elem)) (hi:E.P.info? elem=some i) (hk:i.size≠0) (hze:(zeroOf E.P elem).map List.length=some i.size)
  (hx:V g w x xv) (wR:rowsOf x=some rows) (hy:V g w y yv) (hyr:rowsOf y=some [z]) (hzl:z.length=i.size) (hzo:(z.map AV.pv).all Ar=true)
  (iJ:us.length=i.size) (hrow:row.length=i.size) (hvp:∀ (j:Nat) p,row[j]?=some p->∃ u,us[j]?=some u/\VP g.I w p u)
  (h:Ke L s elem i x row=some (v,s')) :
  ∃ b cap vz e fz w1 wv g',
   (Builtin.append_ #[t,t] T #[xv,yv]).run E.P w=.ok (.slice (some ⟨b,0,none⟩) (rows.length+1) cap) w1 /\
   V g' wv v (.slice (some ⟨b,0,none⟩) (rows.length+1) cap)/\Ext L g w g' wv/\Inv E g' wv s' /\
   wv.heap[b]?=some (.cells ⟨Bt vz (rows.length*i.size) us⟩ e fz)/\w1=A2 wv b vz e fz/\(rows.length*i.size+us.length<=vz.length/\fz.2<=rows.length*i.size) /\
   (∃ k l,g'.tok k=some l/\l.b=b):=by
 obtain⟨AHV,Gx,yb,yo,ysz,yf,rfl,ARf,ANV⟩:=EC hy hyr;obtain⟨zs,hzf,_,oU⟩:=ANV.VK (k:=i.size) hk (by simpa using hzl) Gx;have yH:zs.length=i.size:=by have:=hzf.len; simpa using this
 have oV:∀ u∈zs,u.oneCell'=true:=Flat.one g rfl (by rw[hzl]; exact hzf) hzo;obtain⟨zz,hzz⟩:∃ zz,zeroOf E.P elem=some zz:=by cases hq:zeroOf E.P elem <;> simp_all
 obtain⟨i',zv,hi',iI,_,ADU⟩:=Dw (g:=g) (w:=w) hzz;have:i'=i:=by rw[hi] at hi'; simpa using hi'.symm
 subst this;have oK:Dd E.P elem=some i'.size:=by simp[Dd,hi]
 have hzs:zv.cells.size=i'.size:=by rw[<-DS,<-ADU.len]; rw[hzz] at hze; simpa using hze
 have hn:(Builtin.lenOf (.slice AHV [z].length Gx)).run E.P w=.ok 1 w:=ZK _ _ _;have hd:∀ k,TypeDesc.slice elem≠.int k:=fun k e=>by simp at e
 have hfn:Flat g.I w [row] i'.size us:=by
  have:=IY (k:=i'.size) (n:=1) (ps:=row) (us:=us) (I:=g.I) (w:=w) (by omega) (by omega) hvp;simpa[B6,<-hrow] using this
 unfold Ke at h;split at h
 ·rename_i ER
  simp[rowsOf] at wR; subst wR;split at h
  ·rename_i hc
   obtain⟨NF,MA,hall⟩:=hc;have hl:=LM hall;simp only[AY,Af] at h;obtain⟨rfl,rfl⟩:=h;cases hx with
   | @AA _ base b o sz f hr=>
    obtain⟨os,hfo,_,SQ⟩:=hr.VK hk hl ER.length;obtain⟨F3,rest,NT,Pc,hrun⟩:=run_append_grow (base:=base) (sCap:=ER.length) T [] ht hi ht hd hn (oU E.P (A5 w) rfl) (SQ E.P (A5 w) rfl) iI (by omega) NF MA;obtain⟨e1,i1⟩:=hI.drew (L:=L);have lN:=hfo.append hfn
    have dJ:(os++us++rest).length=F3*i'.size:=by
     simp only[Ab,hfo.len,iJ,Pc,hzs];rw[show ER.length*i'.size+i'.size=(ER.length+1)*i'.size by rw[CH]; omega,<-CH];rw[show ER.length+1+(F3-(ER.length+1))=F3 by omega]
    obtain⟨e3,i3⟩:=i1.ZJ (L:=L) (t:=s.ts.length) (n:=ER.length+1) (e:=elem) dJ NT hk oK (.inl ⟨rfl,rfl⟩);have hrl:(ER++[row]).length=ER.length+1:=by simp
    refine⟨w.heap.size,F3,os++zs++rest,elem,(0,0),_,CO (A5 w) (os++us++rest) elem,_,hrun,?_,e1.trans e3,i3,?_,?_,?_,s.ts.length,⟨(A5 w).heap.size,F3,i'.size,ER.length+1,elem⟩,by simp[AH.GX],rfl⟩
    ·have hV:=G4 (g:=g.GX s.ts.length ⟨(A5 w).heap.size,F3,i'.size,ER.length+1,elem⟩) (w:=CO (A5 w) (os++us++rest) elem) (t:=s.ts.length) (b:=(A5 w).heap.size) (cap:=F3) (e:=elem)
      (by simp[AH.GX]) (lN.mono (e1.trans e3).mono (e1.trans e3).cell) hrl NT (fun o ho=>.inr ⟨rfl,ho⟩) (fun q u hq=>by
       rw[Bd (by rw[Bm]; exact if_pos rfl),BA (Bl hq)]; exact hq)
     rw[hrl] at hV;exact hV
    ·rw[Bm,if_pos (show w.heap.size=(A5 w).heap.size from rfl),<-hfo.len,SX zs us (by omega)]
    ·exact(Gm (w:=A5 w)).symm
    ·exact⟨by simp[hfo.len,yH,iJ],AM _⟩
  ·simp at h
 ·rename_i k ER
  simp[rowsOf] at wR; subst wR;split at h
  ·rename_i hc
   obtain⟨NF,MA,hts,Fz,hall⟩:=hc;have hl:=LM hall;simp only[AY,Af] at h;obtain⟨rfl,rfl⟩:=h;have hrl:(ER++[row]).length=ER.length+1:=by simp
   cases hx with
   | @own _ _ base b o sz cap f l hr hcap RL OH hf=>
    obtain⟨l',XS,Oc,oO⟩:=hI.F6 k _ _ hts;have:l'=l:=by rw[RL] at XS; simpa using XS.symm
    subst this;obtain⟨rfl,rfl,rfl,rfl,rfl⟩:=hf Oc.symm;obtain⟨os,hfo,hco,SQ⟩:=hr.VK hk hl l'.cap;have lN:=hfo.append hfn;obtain⟨vs,fz,hh,ADR,hnc,hsz,hfz,hsl⟩:=hI.tok k l' RL
    have VN:l'.sz=i'.size:=by
     rw[oO,oK] at hsl; simpa using hsl.symm
    by_cases hroom:ER.length+1<=l'.cap
    ·have hbd:l'.n*l'.sz+i'.size<=vs.length:=by
      have:=CB i'.size hroom;rw[CH] at this;rw[Oc,VN,ADR,VN]; omega
     have hst:=Fc (P:=E.P) (b:=l'.b) (o:=l'.n*l'.sz) (e:=l'.e) hfz zs 0 w vs oV hh (by omega);obtain⟨e3,i3⟩:=hI.AAR (L:=L) (n:=ER.length+1) (us:=us) RL hh (by omega) hroom Fz;have i3':Inv E (g.GX k { l' with n:=ER.length+1 }) (A2 w l'.b (Bt vs (l'.n*l'.sz) us) l'.e fz) { s with ts:=s.ts.set k (ER.length+1,elem) }:=by rw[<-oO]; exact i3
     refine⟨l'.b,l'.cap,Bt vs (l'.n*l'.sz) zs,l'.e,fz,A2 w l'.b (Bt vs (l'.n*l'.sz) zs) l'.e fz,A2 w l'.b (Bt vs (l'.n*l'.sz) us) l'.e fz,_,?_,?_,e3,i3',?_,?_,?_,k,{ l' with n:=ER.length+1 },by simp[AH.GX],rfl⟩
     ·have:=run_append_room (base:=some ⟨l'.b,0,none⟩) T [] ht hi ht hd hn (oU E.P w rfl) hroom
      simp only[DW,CJ] at this;rw[<-Oc,<-VN,hst] at this;rw[<-Oc];exact this
     ·have hV:=G4 (g:=g.GX k { l' with n:=ER.length+1 }) (w:=A2 w l'.b (Bt vs (l'.n*l'.sz) us) l'.e fz) (t:=k) (b:=l'.b) (cap:=l'.cap) (sz:=l'.sz) (e:=l'.e)
       (by simp[AH.GX]) (Flat.AHT VN.symm (lN.mono e3.mono e3.cell)) hrl hroom (fun o ho=>.inr ⟨rfl,ho⟩) (fun q u hq=>by
        rw[Bd (by rw[BR,if_pos rfl,if_pos (hI.EE RL)])];rcases CU q os.length with x|x
        ·rw[BA x] at hq
         have:=(hco q u hq).2;rw[Bd hh,CJ] at this;rw[Ef us vs _ _ (.inl (by rw[Oc,VN,<-hfo.len]; exact x))];exact this
        ·rw[CV x] at hq
         have:=FK us vs (l'.n*l'.sz) _ u hq (by omega);rw[Oc,VN,<-hfo.len,show os.length+(q-os.length)=q by omega] at this;rw[Oc,VN,<-hfo.len];exact this)
      rw[hrl] at hV;exact hV
     ·rw[BR,if_pos rfl,if_pos (hI.EE RL),Oc,VN,VR us zs (by omega)]
     ·exact EW.symm
     ·rw[BJ]; have:=hbd; rw[Oc,VN] at this; rw[Oc,VN] at hfz; exact⟨by omega,hfz⟩
    ·obtain⟨F3,rest,NT,Pc,hrun⟩:=run_append_grow (base:=some ⟨l'.b,0,none⟩) (sCap:=l'.cap) T [] ht hi ht hd hn (oU E.P (A5 w) rfl) (SQ E.P (A5 w) rfl) iI (by omega) NF MA
     obtain⟨e1,i1⟩:=hI.drew (L:=L)
     have dJ:(os++us++rest).length=F3*i'.size:=by
      simp only[Ab,hfo.len,iJ,Pc,hzs];rw[show ER.length*i'.size+i'.size=(ER.length+1)*i'.size by rw[CH]; omega,<-CH];rw[show ER.length+1+(F3-(ER.length+1))=F3 by omega]
     obtain⟨e3,i3⟩:=i1.ZJ (L:=L) (t:=k) (n:=ER.length+1) (e:=elem) dJ NT hk oK (.inr ⟨l',RL,by omega,Fz,rfl⟩);refine⟨w.heap.size,F3,os++zs++rest,elem,(0,0),_,CO (A5 w) (os++us++rest) elem,_,hrun,?_,e1.trans e3,i3,?_,?_,?_,k,⟨(A5 w).heap.size,F3,i'.size,ER.length+1,elem⟩,by simp[AH.GX],rfl⟩
     ·have hV:=G4 (g:=g.GX k ⟨(A5 w).heap.size,F3,i'.size,ER.length+1,elem⟩) (w:=CO (A5 w) (os++us++rest) elem) (t:=k) (b:=(A5 w).heap.size) (cap:=F3) (e:=elem)
       (by simp[AH.GX]) (lN.mono (e1.trans e3).mono (e1.trans e3).cell) hrl NT (fun o ho=>.inr ⟨rfl,ho⟩) (fun q u hq=>by
        rw[Bd (by rw[Bm]; exact if_pos rfl),BA (Bl hq)]; exact hq)
      rw[hrl] at hV;exact hV
     ·rw[Bm,if_pos (show w.heap.size=(A5 w).heap.size from rfl),<-hfo.len,SX zs us (by omega)]
     ·exact(Gm (w:=A5 w)).symm
     ·exact⟨by simp[hfo.len,yH,iJ],AM _⟩
  ·simp at h
 ·simp at h
theorem dP {E:Env} {L:A0} {g:AH} {w:World} {s:AK} (hI:Inv E g w s) {t elem T:TypeId} {i:TypeInfo} {y:AV} {xv yv:Value} {id len:Nat} {old zs cells:List AV} {us:List Value}
  (ht:E.P.underlying t=some (.slice elem)) (hi:E.P.info? elem=some i) (hk:i.size≠0) (hze:(zeroOf E.P elem).map List.length=some i.size)
  (hx:V g w (.ref id 0 len i.size) xv) (hy:V g w y yv) (hzs:C8 s i.size y=some zs) (hzl:zs.length=i.size) (hzo:zs.all Ar=true)
  (hold:s.bs[id]?=some old) (hlo:len*i.size<=old.length) (hal:Tel.alive s id=true) (NF:(len+1)*i.bytes<=2 ^ 45) (MA:len+1<=2 ^ 45) (hro:L.ro<=id)
  (iJ:us.length=i.size) (hvl:VL g w cells us) :
  ∃ b cap vz e fz w1 wv g',
   (Builtin.append_ #[t,t] T #[xv,yv]).run E.P w=.ok (.slice (some ⟨b,0,none⟩) (len+1) cap) w1 /\
   V g' wv (.ref s.bs.length 0 (len+1) i.size) (.slice (some ⟨b,0,none⟩) (len+1) cap)/\Ext L g w g' wv/\Inv E g' wv { s with bs:=s.bs.set id []++[old.take (len*i.size)++cells] } /\
   wv.heap[b]?=some (.cells ⟨Bt vz (len*i.size) us⟩ e fz)/\w1=A2 wv b vz e fz/\(len*i.size+us.length<=vz.length/\fz.2<=len*i.size) /\
   g'.blk s.bs.length=some b:=by
 obtain⟨zz,hzz⟩:∃ zz,zeroOf E.P elem=some zz:=by cases hq:zeroOf E.P elem <;> simp_all
 obtain⟨i',zv,hi',iI,_,ADU⟩:=Dw (g:=g) (w:=w) hzz;have:i'=i:=by rw[hi] at hi'; simpa using hi'.symm
 subst this;have ANW:zv.cells.size=i'.size:=by rw[<-DS,<-ADU.len]; rw[hzz] at hze; simpa using hze
 obtain⟨n,zsv,hn,Bu,wP,AAV⟩:=HN hI hy hk hzs
 have hn1:n=1:=by
  rw[hzl] at Bu;exact(Nat.eq_of_mul_eq_mul_right (Nat.pos_of_ne_zero hk) (by rw[Mn]; exact Bu)).symm
 subst hn1;have oV:∀ u∈zsv,u.oneCell'=true:=AAV.one hzo;have yH:zsv.length=i'.size:=by rw[<-AAV.len]; exact hzl
 have hcells:cells.length=i'.size:=by rw[hvl.len]; exact iJ
 have hd:∀ k,TypeDesc.slice elem≠.int k:=fun k e=>by simp at e
 cases hx with
 | I8 hd=>exact absurd hd (hI.alive hal)
 | @ref _ _ _ _ b cap n' e F2 hcap hs hn'=>
  obtain⟨cs',vs,e',k1,k2,wM,k3⟩:=hI.blk id b F2;rw[hold] at k1; simp only[AY] at k1; subst k1;have hsh:vs.length=n':=by rw[Be k2] at hs; simp at hs; exact hs.2
  have k4:VL g w (old.take (len*i'.size)) (vs.take (len*i'.size)):=by
   have:=k3.take (len*i'.size);rw[Rc,Jy hlo] at this;exact this
  have iK:(old.take (len*i'.size)).length=len*i'.size:=by rw[DU]; omega
  by_cases hroom:len+1<=cap
  ·have hbd:len*i'.size+us.length<=vs.length:=by
    have:=CB i'.size hroom;rw[CH] at this;omega
   have hst:=F8 (P:=E.P) (b:=b) (o:=len*i'.size) (e:=e') zsv 0 w vs oV k2 (by omega)
   obtain⟨e1,e2⟩:=hI.oM (L:=L) (cs':=old.take (len*i'.size)++cells) (vs':=Bt vs (len*i'.size) us) F2 k2 (BJ _ _ _) hro
    (by rw[BJ,Ab,iK,hvl.len]; exact hbd)
    (by rw[Ab,iK,hvl.len,Kk us vs _ hbd]; exact k4.append hvl)
   refine⟨b,cap,Bt vs (len*i'.size) zsv,e',(0,0),A2 w b (Bt vs (len*i'.size) zsv) e',A2 w b (Bt vs (len*i'.size) us) e',_,?_,V.ref (b:=b) (e:=e') (n:=n') ?_ hroom ?_ hn',e1,e2,?_,?_,?_,?_⟩
   ·rw[run_append_room T [] ht hi ht hd hn (wP w rfl) hroom]
    simp only[DW,CJ];rw[hst];rfl
   ·simp[AH.F1]
   ·rw[Be (by rw[BR,if_pos rfl,if_pos (hI.C4 F2)]),BJ,hsh]
   ·rw[BR,if_pos rfl,if_pos (hI.C4 F2),VR us zsv (by omega)]
   ·exact EW.symm
   ·rw[BJ]; exact⟨by omega,AM _⟩
   ·simp[AH.F1]
  ·have oN:(vs.take (len*i'.size)).length=len*i'.size:=by rw[DU]; omega
   have hos:(Builtin.firstCells i'.size len (.slice (some ⟨b,0,none⟩) len cap)).run E.P (A5 w)=.ok (List.toArray (vs.take (len*i'.size))) (A5 w):=by
    simp only[Builtin.firstCells]
    have:=Em (P:=E.P) (w:=A5 w) (b:=b) (o:=0) (vs.take (len*i'.size)) (fun j q hj=>by
     rw[CT] at hj;split at hj
     ·have:=Bd (w:=A5 w) (o:=0+j) k2
      rw[this,CJ]; exact hj
     ·simp at hj)
    rw[oN] at this;exact this
   obtain⟨F3,rest,NT,Pc,hrun⟩:=run_append_grow (base:=some ⟨b,0,none⟩) (sCap:=cap) T [] ht hi ht hd hn (wP (A5 w) rfl) hos iI (by omega) NF MA;obtain⟨e1,i1⟩:=hI.drew (L:=L);obtain⟨e2,i2⟩:=i1.kill (L:=L) F2 hro
   have hpre:(old.take (len*i'.size)++cells).length<=(vs.take (len*i'.size)++us++rest).length:=by
    simp only[Ab,oN,iK,hcells,iJ]; omega
   have RL:(vs.take (len*i'.size)++us++rest).take (old.take (len*i'.size)++cells).length=vs.take (len*i'.size)++us:=by
    rw[Re (by simp only[Ab,oN,iK,hcells,iJ])]
   obtain⟨e3,i3⟩:=i2.Qi (L:=L) (cs:=old.take (len*i'.size)++cells) (vs:=vs.take (len*i'.size)++us++rest) elem hpre (by rw[RL]; exact((k4.append hvl).mono e1).mono e2);have hl:({ s with bs:=s.bs.set id [] }:AK).bs.length=s.bs.length:=by simp
   refine⟨w.heap.size,F3,vs.take (len*i'.size)++zsv++rest,elem,(0,0),_,CO (A5 w) (vs.take (len*i'.size)++us++rest) elem,_,hrun,?_,(e1.trans e2).trans e3,i3,?_,?_,?_,?_⟩
   ·refine V.ref (b:=w.heap.size) (e:=elem) (n:=(vs.take (len*i'.size)++us++rest).length) ?_ NT ?_ ?_
    ·simp[AH.F1,A5]
    ·exact Be (by rw[Bm]; exact if_pos rfl)
    ·simp only[Ab,oN,iJ,Pc,ANW]
     have h1:len*i'.size+i'.size=(len+1)*i'.size:=by rw[CH]; omega
     rw[h1,<-CH];rw[show len+1+(F3-(len+1))=F3 by omega];omega
   ·rw[Bm,if_pos (show w.heap.size=(A5 w).heap.size from rfl)]
    have:=SX (os:=vs.take (len*i'.size)) (rest:=rest) zsv us (by omega);rw[oN] at this;rw[this]
   ·exact(Gm (w:=A5 w)).symm
   ·simp only[Ab,oN,yH,iJ]; exact⟨by omega,AM _⟩
   ·simp[AH.F1,A5]
theorem Xj {w:World} {b b':Nat} {vs us:List Value} {e e':TypeId} {fz fz':Nat×Nat} (h:b≠b'):A2 (A2 w b vs e fz) b' us e' fz'=A2 (A2 w b' us e' fz') b vs e fz:=by
 refine Ho ?_ rfl rfl rfl rfl;exact Array.setIfInBounds_comm _ _ h
theorem dQ {E:Env} {L:A0} {g:AH} {w:World} {s s':AK} (hI:Inv E g w s) {t:TypeId} {a x:AV} {av xv:Value}
  (ha:V g w a av) (hx:V g w x xv) (h:Ni E L s t a x=some s') :
  ∃ id b vs e,(∃ off,a=.ptr id off)/\g.blk id=some b/\Ext L g w g (A2 w b vs e)/\Inv E g (A2 w b vs e) s' /\
   ∀ w2:World,w2.heap[b]?=w.heap[b]?->(Instr.storeAt t av xv).run E.P w2=.ok () (A2 w2 b vs e):=by
 unfold Ni at h;split at h
 ·rename_i id off i hi
  split at h
  ·rename_i cs hcs
   simp only at h;split at h
   ·rename_i hc
    obtain⟨h1,h2,h3,h4,_,hi0⟩:=hc;simp at h; subst h;simp only[Qh] at hcs;cases ha with
    | Ki hd=>
     have:=hI.DM id hd;rw[hcs] at this; simp at this; subst this;rw[h1] at h2; simp at h2; omega
    | @ptr _ _ b hb=>
     obtain⟨cs',vs,e,k1,k2,wM,k3⟩:=hI.blk id b hb;rw[hcs] at k1; simp at k1; subst k1;have hv:=El hx h4;have hone:∀ u∈xv.cells.toList,u.oneCell'=true:=VL.one hv h4;have hlen:xv.cells.size=i.size:=by rw[<-DS,<-hv.len]; exact h1
     obtain⟨q1,q2⟩:=hI.putRow (L:=L) (vs':=Bt vs off xv.cells.toList) (cs':=setCells cs off (cellsOf x)) hb k2 (BJ _ _ _) h3 (by rw[Fb,BJ]; exact wM) (by rw[Fb,VI]; exact VL.setCells off k3 hv);refine⟨id,b,_,e,⟨off,rfl⟩,hb,q1,q2,fun w2 hw2=>?_⟩;simp only[Instr.storeAt,Instr.sureAddr,storeVar,Sem.run_bind,Sem.run_pure,Result.andThen_ok,run_sizeOf hi,hlen,ne_eq,K7,Dk];have:=F8 (P:=E.P) (b:=b) (o:=off) (e:=e) xv.cells.toList 0 w2 vs hone (hw2.trans k2) (by rw[<-hv.len]; omega);simpa using this
   ·simp at h
  ·simp at h
 ·simp at h
theorem oW {E:Env} {L:A0} {g:AH} {w:World} {s:AK} {ρ:Nat->AV} {a:Act} {o:Oper} {v:AV} (ho:(∃ x,o.op=.nilCheck x)\/(∃ t x f,o.op=.fieldAddr t x f)\/(∃ x,o.op=.move x))
  (hI:Inv E g w s) (hρ:∀ t,V g w (ρ t) (a.tmps.getD t undef)) (h:JR E L ρ s o=some v) :
  ∃ v',(∀ w2:World,(execOp a.eval o).run E.P w2=.ok (.value v') w2)/\V g w v v':=by
 have h:=SU h;obtain⟨dst,op,type,pos,after,guard⟩:=o;rcases ho with ⟨x,rfl⟩|⟨t,x,f,rfl⟩|⟨x,rfl⟩
 ·simp only[CE] at h
  split at h
  ·rename_i u hu
   simp at h; subst h;exact ME _ rfl hI hρ hu
  ·simp at h
 ·simp only[CE] at h
  split at h
  ·rename_i u hu
   simp at h; subst h;obtain⟨v',hr,hv⟩:=Kj hI (AO hρ x) hu;exact⟨v',fun w2=>by simp[execOp,hr w2],hv⟩
  ·simp at h
 ·simp only[CE,AY,Af] at h
  obtain⟨rfl,_⟩:=h;exact⟨_,fun w2=>by simp[execOp],AO hρ x⟩
structure Ug (E:Env) (L:A0) (cf:Co) (ops:Array Oper) (p:Bg) (K N:Nat) (ρ0 ρf:Nat->AV) (σ:Nat->AK):Prop where
 yI:∀ (i:Nat) o e,ops[i]?=some o->e∈o.after->Region.binds .any e=true->e.on<i
 pre:∀ (i:Nat) o j,ops[i]?=some o->j∈D7 p i->∃ e,e∈o.after/\Region.binds .any e=true/\(e.on=j\/j∈D7 p e.on)
 cls:∀ (i:Nat) o,ops[i]?=some o->∃ c,p.cls[i]?=some c
 dst:∀ (i j:Nat) oi oj d,ops[i]?=some oi->ops[j]?=some oj->oi.dst=some d->oj.dst=some d->i=j
 read:∀ (i j:Nat) oi oj d,ops[i]?=some oi->ops[j]?=some oj->oj.dst=some d->d∈G5 ops oi++GY oi ->
  (has (HM p.G0 i) d=true/\(j=i\/i∈D7 p j))\/(has (HM p.G0 i) d=false/\j∈D7 p i)
 rk:∀ (i j:Nat) oi oj r r',ops[i]?=some oi->ops[j]?=some oj->FG p i=some r->FG p j=some r'->r<r'->i∈D7 p j
 AAX:∀ (i j:Nat) oi oj r,ops[i]?=some oi->ops[j]?=some oj->FG p i=some r->FG p j=some r->i=j
 ADV:∀ k,k<K->∃ (i:Nat) (o:Oper),ops[i]?=some o/\FG p i=some k
 ADW:∀ (i:Nat) o r,ops[i]?=some o->FG p i=some r->r<K
 time:∀ (i:Nat) o ts,ops[i]?=some o->(p.cls[i]?=some (.q ts)\/p.cls[i]?=some (.h ts))->∀ k,k<=K->k∉ts ->
  ∃ (j:Nat) (oj:Oper) (r:Nat),ops[j]?=some oj/\FG p j=some r/\((j∈D7 p i/\k<=r)\/(i∈D7 p j/\r<k))
 oX:∀ (i:Nat) o r (j x:Nat),ops[i]?=some o->p.cls[i]?=some (.fa r j x)->∃ o1 o2 k,ops[j]?=some o1/\ops[x]?=some o2/\p.cls[j]?=some .fj/\p.cls[x]?=some .fx/\fused o o1 o2=some k /\
  HM p.G0 i=[]/\HM p.G0 j=[]/\HM p.G0 x=[]/\i∈D7 p j/\j∈D7 p x/\i∈D7 p x /\
  ∃ v,NQ E L ρf (σ r) k=some (v,σ (r+1))/\ρf k.d=v/\ρf k.p=.HU
 win:∀ (i:Nat) o r (j x:Nat),ops[i]?=some o->p.cls[i]?=some (.fa r j x)->∀ (m:Nat) om,ops[m]?=some om->m≠i->m≠j->m≠x ->
  (m∈D7 p i\/x∈D7 p m\/Xc ops p m=true)/\∀ d,om.dst=some d->(d∈D2 ops j\/d∈D2 ops x)->m∈D7 p i
 mu:∀ (i:Nat) o r (j x d FR off len sz:Nat),Ub E L ops i j x=true->ops[i]?=some o->p.cls[i]?=some (.fa r j x)->o.dst=some d->ρf d=.ref FR off len sz->∀ (m:Nat) om r' t y z,ops[m]?=some om->p.cls[m]?=some (.w r')->om.op=.store t y z ->
  ∀ id off',AP (Fx p.G0 ρ0 ρf m) y=.ptr id off'->id≠FR
 AHW:∀ (j:Nat) oj,ops[j]?=some oj->p.cls[j]?=some .fj->∃ (i:Nat) (o:Oper) (r x:Nat),ops[i]?=some o/\p.cls[i]?=some (.fa r j x)
 AHX:∀ (x:Nat) ox,ops[x]?=some ox->p.cls[x]?=some .fx->∃ (i:Nat) (o:Oper) (r j:Nat),ops[i]?=some o/\p.cls[i]?=some (.fa r j x)
 out:∀ t,(∀ (i:Nat) o,ops[i]?=some o->o.dst≠some t)->ρf t=ρ0 t
 oY:∀ (i:Nat) o d,ops[i]?=some o->o.dst=some d->d<N
 wF:∀ (i:Nat) o r,ops[i]?=some o->p.cls[i]?=some (.w r)->∃ v,Nl E L cf ops (Fx p.G0 ρ0 ρf i) (σ r) o=some (v,σ (r+1))/\∀ d,o.dst=some d->ρf d=v
 qF:∀ (i:Nat) o ts k,ops[i]?=some o->p.cls[i]?=some (.q ts)->k∈ts->∃ v,FQ E L ops (Fx p.G0 ρ0 ρf i) (σ k) o=some v/\∀ d,o.dst=some d->ρf d=v
 hF:∀ (i:Nat) o ts,ops[i]?=some o->p.cls[i]?=some (.h ts)->o.guard=none/\∃ d cs mk id,o.dst=some d/\hcells E (Fx p.G0 ρ0 ρf i) o=some (cs,mk)/\ρf d=mk id/\∀ k∈ts,(σ k).bs[id]?=some cs
 AHY:∀ (i j:Nat) oi oj ts us d e id,ops[i]?=some oi->ops[j]?=some oj->p.cls[i]?=some (.h ts)->p.cls[j]?=some (.h us)->oi.dst=some d->oj.dst=some e->Kg (ρf d)=some id->Kg (ρf e)=some id->i=j
section
variable {E:Env} {L:A0} {cf:Co} {ops:Array Oper} {p:Bg} {K N:Nat} {ρ0 ρf:Nat->AV} {σ:Nat->AK}
theorem Ug.Nu (R:Ug E L cf ops p K N ρ0 ρf σ):∀ i o j,ops[i]?=some o->j∈D7 p i->j<i:=by
 intro i
 induction i using Nat.strongRecOn with
 | ind i ih=>
  intro o j ho hj;obtain⟨e,he,hb,h⟩:=R.pre i o j ho hj;have hlt:=R.yI i o e ho he hb;rcases h with rfl|h
  ·exact hlt
  ·obtain⟨oe,hoe⟩:∃ oe,ops[e.on]?=some oe:=⟨ops[e.on]'(by have:=BI ho; omega),by simp⟩
   have:=ih e.on hlt oe j hoe h;omega
def Down (ops:Array Oper) (D:Nat->Prop):Prop:=∀ (i:Nat) o e,ops[i]?=some o->D i->e∈o.after->Region.binds .any e=true->D e.on
theorem Ug.LO (R:Ug E L cf ops p K N ρ0 ρf σ) {D:Nat->Prop} (hD:Down ops D):∀ i o j,ops[i]?=some o->(∀ e∈o.after,Region.binds .any e=true->D e.on)->j∈D7 p i->D j:=by
 intro i
 induction i using Nat.strongRecOn with
 | ind i ih=>
  intro o j ho hr hj;obtain⟨e,he,hb,h⟩:=R.pre i o j ho hj;have hlt:=R.yI i o e ho he hb;have hde:=hr e he hb;rcases h with rfl|h
  ·exact hde
  ·obtain⟨oe,hoe⟩:∃ oe,ops[e.on]?=some oe:=⟨ops[e.on]'(by have:=BI ho; omega),by simp⟩
   exact ih e.on hlt oe j hoe (fun e' he' hb'=>hD e.on oe e' hoe hde he' hb') h
theorem Ug.MF (R:Ug E L cf ops p K N ρ0 ρf σ) {D:Nat->Prop} (hD:Down ops D) {i j:Nat} {o:Oper} (ho:ops[i]?=some o) (hi:D i) (hj:j∈D7 p i):D j:=
 R.LO hD i o j ho (fun e he hb=>hD i o e ho hi he hb) hj
open Classical in
noncomputable def rho (ops:Array Oper) (ρ0 ρf:Nat->AV) (D:Nat->Prop) (t:Nat):AV:=if ∃ (i:Nat) (o:Oper),ops[i]?=some o/\o.dst=some t/\D i then ρf t else ρ0 t
theorem Po {D:Nat->Prop} {t i:Nat} {o:Oper} (ho:ops[i]?=some o) (hd:o.dst=some t) (hi:D i):rho ops ρ0 ρf D t=ρf t:=if_pos ⟨i,o,ho,hd,hi⟩
theorem Oj {D:Nat->Prop} {t:Nat} (h:∀ (i:Nat) (o:Oper),ops[i]?=some o->o.dst=some t->¬ D i):rho ops ρ0 ρf D t=ρ0 t:=if_neg (fun⟨i,o,ho,hd,hi⟩=>h i o ho hd hi)
theorem Ug.SY (R:Ug E L cf ops p K N ρ0 ρf σ) {D:Nat->Prop} {t:Nat} (h:∀ (i:Nat) (o:Oper),ops[i]?=some o->o.dst≠some t):rho ops ρ0 ρf D t=ρf t:=by
 rw[Oj (fun i o ho hd=>absurd hd (h i o ho)),R.out t h]
theorem Ug.agree (R:Ug E L cf ops p K N ρ0 ρf σ) {D:Nat->Prop} (hD:Down ops D) {i:Nat} {o:Oper} (ho:ops[i]?=some o) (hn:¬ D i) (hr:∀ e∈o.after,Region.binds .any e=true->D e.on) :
  ∀ t∈G5 ops o++GY o,rho ops ρ0 ρf D t=Fx p.G0 ρ0 ρf i t:=by
 intro t ht;unfold Fx
 by_cases hw:∃ (j:Nat) (oj:Oper),ops[j]?=some oj/\oj.dst=some t
 ·obtain⟨j,oj,nS,oZ⟩:=hw
  rcases R.read i j o oj t ho nS oZ ht with ⟨h1,h2⟩|⟨h1,h2⟩
  ·rw[h1,AE]
   refine Oj fun k ok hok hdk hDk=>?_
   have:k=j:=R.dst k j ok oj t hok nS hdk oZ;subst this;rcases h2 with rfl|h2
   ·exact hn hDk
   ·exact hn (R.MF hD hok hDk h2)
  ·rw[h1,AB]
   exact Po nS oZ (R.LO hD i o j ho hr h2)
 ·have hno:∀ (j:Nat) (oj:Oper),ops[j]?=some oj->oj.dst≠some t:=fun j oj nS oZ=>hw ⟨j,oj,nS,oZ⟩
  rw[R.SY hno];cases has (HM p.G0 i) t with
  | true=>rw[AE,R.out t hno]
  | false=>rw[AB]
end
def Open (P:Program) (q:AV) (X:Prop) (kf:Kc) (Dj:Prop) (a:Act) (g:AH) (w wv:World):Prop:=
 ∃ (b cap len:Nat) (vz:List Value) (e:TypeId) (fz:Nat×Nat) (xv:Value) (kk:IntKind) (elem:TypeId) (ti:TypeInfo),
  P.underlying kf.t=some (.slice elem)/\P.info? elem=some ti/\kf.te=elem /\
  a.eval (.tmp kf.d)=.slice (some ⟨b,0,none⟩) (len+1) cap/\a.eval kf.ix=.int kk (len:Int)/\a.eval kf.v=xv/\xv.cells.size=ti.size/\(∀ u∈xv.cells.toList,u.oneCell'=true) /\
  wv.heap[b]?=some (.cells ⟨Bt vz (len*ti.size) xv.cells.toList⟩ e fz)/\w=A2 wv b vz e fz/\(len*ti.size+ti.size<=vz.length/\fz.2<=len*ti.size)/\((∃ k l,g.tok k=some l/\l.b=b)\/∃ FR off n sz,q=.ref FR off n sz/\g.blk FR=some b/\X) /\
  (Dj->a.eval (.tmp kf.p)=.pointer (some ⟨b,len*ti.size,none⟩))
def NG (ops:Array Oper) (p:Bg) (D:Nat->Prop) (i:Nat):Prop:=∀ (i':Nat) o' r' (j' x':Nat),ops[i']?=some o'->p.cls[i']?=some (.fa r' j' x')->D i'->i'≠i->D x'
def Window (E:Env) (L:A0) (ρf:Nat->AV) (ops:Array Oper) (p:Bg) (D:Nat->Prop) (a:Act) (g:AH) (w wv:World):Prop:=
 (w=wv/\∀ i,NG ops p D i) \/
 ∃ (i:Nat) (o:Oper) (r j x:Nat) (o1 o2:Oper) (kf:Kc),ops[i]?=some o/\p.cls[i]?=some (.fa r j x)/\ops[j]?=some o1/\ops[x]?=some o2/\fused o o1 o2=some kf/\D i/\¬ D x /\
  NG ops p D i/\Open E.P (ρf kf.d) (Ub E L ops i j x=true) kf (D j) a g w wv
structure Core (E:Env) (L:A0) (ops:Array Oper) (p:Bg) (K N:Nat) (ρ0 ρf:Nat->AV) (σ:Nat->AK) (ds:List Deferred) (g0:AH) (w0:World) (D:Nat->Prop) (a:Act) (k:Nat) (g:AH) (wv:World):Prop where
 kK:k<=K
 time:∀ (i:Nat) o r,ops[i]?=some o->FG p i=some r->(D i<->r<k)
 size:a.tmps.size=N
 defers:a.defers=ds
 ext:Ext L g0 w0 g wv
 inv:Inv E g wv (σ k)
 tmps:∀ t,V g wv (rho ops ρ0 ρf D t) (a.tmps.getD t undef)
 C1:∀ (i:Nat) o ts d id,ops[i]?=some o->p.cls[i]?=some (.h ts)->o.dst=some d->Kg (ρf d)=some id->¬ D i->g.C1 id
def J (E:Env) (L:A0) (ops:Array Oper) (p:Bg) (K N:Nat) (ρ0 ρf:Nat->AV) (σ:Nat->AK) (ds:List Deferred) (g0:AH) (w0:World) (D:Nat->Prop) (a:Act) (w:World):Prop:=
 ∃ k g wv,Core E L ops p K N ρ0 ρf σ ds g0 w0 D a k g wv/\Window E L ρf ops p D a g w wv
theorem SZ (a:Act) (d:Option Tmp) (v:Value):(a.put d v).tmps.size=a.tmps.size:=by cases d <;> simp[Act.put]
theorem put_defers (a:Act) (d:Option Tmp) (v:Value):(a.put d v).defers=a.defers:=by cases d <;> simp[Act.put]
theorem JX {a:Act} {d:Nat} {v:Value} (h:d<a.tmps.size):(a.put (some d) v).tmps.getD d undef=v:=by simp[Act.put,h]
theorem Pr {a:Act} {d:Option Tmp} {v:Value} {t:Nat} (h:d≠some t):(a.put d v).tmps.getD t undef=a.tmps.getD t undef:=by
 cases d with
 | none=>rfl
 | some d=>
  have hne:d≠t:=fun e=>h (by rw[e])
  simp[Act.put,W6 hne]
section
variable {E:Env} {L:A0} {cf:Co} {ops:Array Oper} {p:Bg} {K N:Nat} {ρ0 ρf:Nat->AV} {σ:Nat->AK} {ds:List Deferred} {g0:AH} {w0:World}
theorem Core.push (R:Ug E L cf ops p K N ρ0 ρf σ) {D:Nat->Prop} {a:Act} {k k':Nat} {g g':AH} {wv yJ:World} (h:Core E L ops p K N ρ0 ρf σ ds g0 w0 D a k g wv) {m:Nat} {om:Oper} (hm:ops[m]?=some om)
  (hk:(FG p m=none/\k'=k)\/(FG p m=some k/\k'=k+1)) (ANZ:Ext L g0 w0 g' yJ) (hmono:∀ x u,V g wv x u->V g' yJ x u) (hinv:Inv E g' yJ (σ k')) {v':Value}
  (hv:∀ d,om.dst=some d->V g' yJ (ρf d) v')
  (AHZ:∀ (i:Nat) o ts d id,ops[i]?=some o->p.cls[i]?=some (.h ts)->o.dst=some d->Kg (ρf d)=some id->¬ D i->i≠m->g'.C1 id) :
  Core E L ops p K N ρ0 ρf σ ds g0 w0 (fun i=>D i\/i=m) (a.put om.dst v') k' g' yJ where
 kK:=by
  rcases hk with ⟨_,rfl⟩|⟨h1,rfl⟩
  ·exact h.kK
  ·exact R.ADW m om k hm h1
 time:=fun i o r ho hr=>by
  have ht:=h.time i o r ho hr;rcases hk with ⟨h1,rfl⟩|⟨h1,rfl⟩
  ·have:i≠m:=fun e=>by subst e; rw[hr] at h1; simp at h1
   simp[this,ht]
  ·by_cases hi:i=m
   ·subst hi
    rw[hr] at h1;simp at h1;simp[h1]
   ·have:r≠k:=fun e=>hi (R.AAX i m o om r ho hm hr (e ▸ h1))
    simp only[hi,FL,ht];omega
 size:=by rw[SZ]; exact h.size
 defers:=by rw[put_defers]; exact h.defers
 ext:=ANZ
 inv:=hinv
 tmps:=fun t=>by
  by_cases ht:om.dst=some t
  ·rw[Po hm ht (.inr rfl),ht,JX (by rw[h.size]; exact R.oY m om t hm ht)]
   exact hv t ht
  ·rw[Pr ht]
   have:rho ops ρ0 ρf (fun i=>D i\/i=m) t=rho ops ρ0 ρf D t:=by
    by_cases hx:∃ (i:Nat) (o:Oper),ops[i]?=some o/\o.dst=some t/\D i
    ·obtain⟨i,o,ho,hd,hi⟩:=hx
     rw[Po ho hd hi,Po ho hd (.inl hi)]
    ·rw[Oj (D:=D) fun i o ho hd hi=>hx ⟨i,o,ho,hd,hi⟩,Oj]
     intro i o ho hd hi;rcases hi with hi|rfl
     ·exact hx ⟨i,o,ho,hd,hi⟩
     ·rw[hm] at ho; simp at ho; subst ho; exact ht hd
   rw[this];exact hmono _ _ (h.tmps t)
 C1:=fun i o ts d id ho hc hd hid hn=>AHZ i o ts d id ho hc hd hid (fun x=>hn (.inl x)) (fun x=>hn (.inr x))
theorem Core.now (R:Ug E L cf ops p K N ρ0 ρf σ) {D:Nat->Prop} {a:Act} {k:Nat} {g:AH} {wv:World} (h:Core E L ops p K N ρ0 ρf σ ds g0 w0 D a k g wv) (hD:Down ops D) {m r:Nat} {om:Oper} (hm:ops[m]?=some om) (hn:¬ D m)
  (hr:∀ e∈om.after,Region.binds .any e=true->D e.on) (Rs:FG p m=some r):r=k:=by
 have h1:k<=r:=by
  rcases CU r k with x|x
  ·exact absurd ((h.time m om r hm Rs).2 x) hn
  ·exact x
 rcases CU k r with x|x
 ·obtain⟨i,o,ho,hi⟩:=R.ADV k (by have:=R.ADW m om r hm Rs; omega)
  have:=(h.time i o k ho hi).1 (R.LO hD m om i hm hr (R.rk i m o om k r ho hm hi Rs x));omega
 ·omega
theorem Core.oa (R:Ug E L cf ops p K N ρ0 ρf σ) {D:Nat->Prop} {a:Act} {k:Nat} {g:AH} {wv:World} (h:Core E L ops p K N ρ0 ρf σ ds g0 w0 D a k g wv) (hD:Down ops D) {m:Nat} {om:Oper} {ts:List Nat} (hm:ops[m]?=some om) (hn:¬ D m)
  (hr:∀ e∈om.after,Region.binds .any e=true->D e.on) (hc:p.cls[m]?=some (.q ts)\/p.cls[m]?=some (.h ts)):k∈ts:=by
 rcases Classical.em (k∈ts) with x|x
 ·exact x
 ·obtain⟨j,oj,r,nS,Rs,h1|h1⟩:=R.time m om ts hm hc k h.kK x
  ·have:=(h.time j oj r nS Rs).1 (R.LO hD m om j hm hr h1.1)
   omega
  ·exact absurd (R.MF hD nS ((h.time j oj r nS Rs).2 h1.2) h1.1) hn
theorem NG.more {D:Nat->Prop} {m i:Nat} {om:Oper} (hm:ops[m]?=some om) (hnf:∀ r j x,p.cls[m]?≠some (.fa r j x)) (h:NG ops p D i):NG ops p (fun i=>D i\/i=m) i:=by
 intro i' o' r' j' x' ho hc hi hne;rcases hi with hi|rfl
 ·exact .inl (h i' o' r' j' x' ho hc hi hne)
 ·exact absurd hc (hnf _ _ _)
end
theorem Kl {rd:Option Nat} {P:Program} {ops:Array Oper} {Q:Exit->Act->World->Prop} {m:Nat} {om:Oper} {K:Act->World->Prop} {a:Act} {w:World} (hm:ops[m]?=some om)
  (hw:Region.wanted om (yielded ops a.tmps)=true) (h:om.wpIn (FW rd) 0 P a w K Q):wpOpIn (FW rd) 0 P ops Q m K a w:=by
 simp only[wpOpIn,hm,hw,Dr];exact h
theorem Rt {rd:Option Nat} {P:Program} {ops:Array Oper} {Q:Exit->Act->World->Prop} {m:Nat} {om:Oper} {K:Act->World->Prop} {a:Act} {w:World} (hm:ops[m]?=some om)
  (hw:Region.wanted om (yielded ops a.tmps)=false) (h:K (a.put om.dst undef) w):wpOpIn (FW rd) 0 P ops Q m K a w:=by
 simp only[wpOpIn,hm,hw,Cc,Dk];exact⟨fun _ _=>trivial,h⟩
theorem Mx {rd:Option Nat} {P:Program} {ops:Array Oper} {Q:Exit->Act->World->Prop} {m:Nat} {om:Oper} {K:Act->World->Prop} {a:Act} {w w':World} {v:Value} (hm:ops[m]?=some om)
  (hg:om.guard=none) (hr:(execOp a.eval om).run P w=.ok (.value v) w') (h:K (a.put om.dst v) w'):wpOpIn (FW rd) 0 P ops Q m K a w:=
 Kl hm (by simp[Region.wanted,hg]) (KA hr h)
theorem ZN {E:Env} {L:A0} {cf:Co} {ρ:Nat->AV} {s:AK} {o:Oper} {v:AV} (h:JR E L ρ s o=some v):ND E L cf ρ s o=some (v,s):=by
 have h:=SU h;rw[Mu];unfold lF;split
 ·rename_i c hc
  split
  ·exact h
  ·rename_i hnb
   obtain⟨dst,op,type,pos,after,guard⟩:=o;simp only at hc;subst hc;obtain⟨callee,args,ts⟩:=c;cases callee with
   | builtin b=>exact absurd rfl (hnb b)
   | value f=>simp[CE] at h
   | invoke r n=>simp[CE] at h
 ·exact h
theorem GZ {o o1 o2:Oper} {kf:Kc} (h:fused o o1 o2=some kf) :
  o.op=.call { callee:=.builtin .append,args:=#[kf.x,kf.y],argTypes:=#[kf.t,kf.t] }/\o.dst=some kf.d/\o1.op=.indexAddr kf.t (.tmp kf.d) kf.ix/\o1.dst=some kf.p /\
  o2.op=.store kf.te (.tmp kf.p) kf.v/\o2.dst=none/\kf.d≠kf.p/\(o.guard=none/\o1.guard=none/\o2.guard=none)/\kf.ix≠.tmp kf.d/\kf.v≠.tmp kf.d/\kf.v≠.tmp kf.p:=by
 unfold fused at h;split at h
 ·rename_i args ts d t1 d1 ix p te p1 v ho hd ho1 wS ho2 Ru
  split at h
  ·rename_i x y t t' ha ht
   split at h
   ·rename_i hc
    obtain⟨rfl,rfl,rfl,rfl,hne,g1,g2,g3,h1,h2,h3,_⟩:=hc;simp at h;subst h;have Hs:args=#[x,y]:=by rw[<-Fp (xs:=args),ha]
    have ht':ts=#[t',t']:=by rw[<-Fp (xs:=ts),ht]
    subst Hs ht';have hn:∀ (z:Operand) (q:Nat),Lq z q=false->z≠.tmp q:=fun z q hz e=>by subst e; simp[Lq] at hz
    exact⟨ho,hd,ho1,wS,ho2,Ru,hne,⟨by simpa using g1,by simpa using g2,by simpa using g3⟩,hn _ _ h1,hn _ _ h2,hn _ _ h3⟩
   ·simp at h
  ·simp at h
 ·simp at h
theorem Ql {o o1 o2:Oper} {kf:Kc} (h:fused o o1 o2=some kf):∀ z,z=kf.x\/z=kf.y\/z=kf.ix\/z=kf.v->z≠.tmp kf.d/\z≠.tmp kf.p:=by
 unfold fused at h;split at h
 ·split at h
  ·split at h
   ·rename_i hc
    obtain⟨rfl,rfl,rfl,rfl,hne,g1,g2,g3,h1,h2,h3,h4,h5,h6,h7,h8⟩:=hc;simp at h;subst h;have hn:∀ (z:Operand) (q:Nat),Lq z q=false->z≠.tmp q:=fun z q hz e=>by subst e; simp[Lq] at hz
    rintro z (rfl|rfl|rfl|rfl)
    ·exact⟨hn _ _ h4,hn _ _ h6⟩
    ·exact⟨hn _ _ h5,hn _ _ h7⟩
    ·exact⟨hn _ _ h1,hn _ _ h8⟩
    ·exact⟨hn _ _ h2,hn _ _ h3⟩
   ·simp at h
  ·simp at h
 ·simp at h
theorem DE {a:Act} {d:Option Tmp} {v:Value} {z:Operand} (h:∀ t,z=.tmp t->d≠some t):(a.put d v).eval z=a.eval z:=by
 cases z with
 | tmp t=>exact Pr (h t rfl)
 | const c=>cases d <;> rfl
 | global g=>cases d <;> rfl
 | func f=>cases d <;> rfl
section
variable {rd:Option Nat} {E:Env} {L:A0} {cf:Co} {ops:Array Oper} {p:Bg} {K N:Nat} {ρ0 ρf:Nat->AV} {σ:Nat->AK} {ds:List Deferred} {g0:AH} {w0:World} {Q:Exit->Act->World->Prop}
theorem KO {m r:Nat} (h:p.cls[m]?=some (.w r)):FG p m=some r:=by simp[FG,h,J7]
theorem KB {m r j x:Nat} (h:p.cls[m]?=some (.fa r j x)):FG p m=some r:=by simp[FG,h,J7]
theorem Pt {m:Nat} {ts:List Nat} (h:p.cls[m]?=some (.q ts)):FG p m=none:=by simp[FG,h,J7]
theorem oc {m:Nat} {ts:List Nat} (h:p.cls[m]?=some (.h ts)):FG p m=none:=by simp[FG,h,J7]
theorem iM {m:Nat} (h:p.cls[m]?=some .fj):FG p m=none:=by simp[FG,h,J7]
theorem iP {m:Nat} (h:p.cls[m]?=some .fx):FG p m=none:=by simp[FG,h,J7]
theorem Ug.ADY (R:Ug E L cf ops p K N ρ0 ρf σ) {D:Nat->Prop} (hD:Down ops D) {m r j x:Nat} {om:Oper} (hm:ops[m]?=some om) (hc:p.cls[m]?=some (.fa r j x)) (hr:∀ e∈om.after,Region.binds .any e=true->D e.on)
  {o1 o2:Oper} {kf:Kc} (h1:ops[j]?=some o1) (h2:ops[x]?=some o2) (hf:fused om o1 o2=some kf) (w1:HM p.G0 m=[]) (w2:HM p.G0 j=[]) :
  ∀ z,z=kf.x\/z=kf.y\/z=kf.ix\/z=kf.v->AP ρf z=AP (rho ops ρ0 ρf D) z:=by
 obtain⟨f1,f2,f3,f4,f5,f6,f7,f8,f9,f10,f11⟩:=GZ hf;intro z hz;refine J8 fun t ht=>?_
 subst ht
 by_cases hw:∃ (i:Nat) (o:Oper),ops[i]?=some o/\o.dst=some t
 ·obtain⟨i,oi,LP,Y0⟩:=hw
  have hpre:i∈D7 p m:=by
   by_cases hxy:Operand.tmp t=kf.x\/Operand.tmp t=kf.y
   ·have:t∈GY om:=DD.2 (by rw[f1]; rcases hxy with e|e <;> simp[Op.operands,Call.operands,e])
    rcases R.read m i om oi t hm LP Y0 (Dt _ this) with ⟨q1,_⟩|⟨_,q2⟩
    ·rw[w1] at q1; simp[has] at q1
    ·exact q2
   ·have hiv:Operand.tmp t=kf.ix\/Operand.tmp t=kf.v:=by
     rcases hz with e|e|e|e
     ·exact absurd (.inl e) hxy
     ·exact absurd (.inr e) hxy
     ·exact .inl e
     ·exact .inr e
    by_cases e1:i=m
    ·subst e1
     rw[hm] at LP; simp at LP; subst LP;rw[f2] at Y0; simp at Y0; subst Y0;rcases hiv with e|e
     ·exact absurd e.symm f9
     ·exact absurd e.symm f10
    by_cases e2:i=j
    ·subst e2
     rw[h1] at LP; simp at LP; subst LP;rw[f4] at Y0; simp at Y0; subst Y0;rcases hiv with e|e
     ·have:kf.p∈GY o1:=DD.2 (by rw[f3]; simp[Op.operands,e])
      rcases R.read i i o1 o1 kf.p h1 h1 f4 (Dt _ this) with ⟨q1,_⟩|⟨_,q2⟩
      ·rw[w2] at q1; simp[has] at q1
      ·exact absurd (R.Nu i o1 i h1 q2) (II _)
     ·exact absurd e.symm f11
    by_cases e3:i=x
    ·subst e3
     rw[h2] at LP; simp at LP; subst LP;rw[f6] at Y0; simp at Y0
    refine(R.win m om r j x hm hc i oi LP e1 e2 e3).2 t Y0 ?_;rcases hiv with e|e
    ·exact .inl (by simp only[D2,h1]; exact Dt _ (DD.2 (by rw[f3]; simp[Op.operands,e])))
    ·exact .inr (by simp only[D2,h2]; exact Dt _ (DD.2 (by rw[f5]; simp[Op.operands,e])))
  exact(Po LP Y0 (R.LO hD m om i hm hr hpre)).symm
 ·exact(R.SY fun i o ho hd=>hw ⟨i,o,ho,hd⟩).symm
theorem ZO (R:Ug E L cf ops p K N ρ0 ρf σ) (Qk:Hr E L cf) {D:Nat->Prop} (hD:Down ops D) {a:Act} {k:Nat} {g:AH} {w:World} (h:Core E L ops p K N ρ0 ρf σ ds g0 w0 D a k g w) (hsh:∀ i,NG ops p D i)
  (hnp:∀ (i:Nat) o ts d id,ops[i]?=some o->p.cls[i]?=some (.h ts)->o.dst=some d->Kg (ρf d)=some id->¬ g0.C1 id)
  {m:Nat} {om:Oper} (hm:ops[m]?=some om) (hn:¬ D m) (hr:∀ e∈om.after,Region.binds .any e=true->D e.on) :
  wpOpIn (FW rd) 0 E.P ops Q m (J E L ops p K N ρ0 ρf σ ds g0 w0 (fun i=>D i\/i=m)) a w:=by
 have hag:=R.agree hD hm hn hr;obtain⟨c,hc⟩:=R.cls m om hm;have od:(∀ r j x,p.cls[m]?≠some (.fa r j x))->∀ i,NG ops p (fun i=>D i\/i=m) i:=fun hnf i=>NG.more hm hnf (hsh i)
 have E8:∀ (g':AH),(∀ id,g.C1 id->g'.C1 id)->∀ (i:Nat) o ts d id,ops[i]?=some o->p.cls[i]?=some (.h ts)->o.dst=some d->Kg (ρf d)=some id->¬ D i->i≠m->g'.C1 id:=
  fun g' hg i o ts d id ho Ez hd hid hnD _=>hg id (h.C1 i o ts d id ho Ez hd hid hnD)
 cases c with
 | w r=>
  have hk:=h.now R hD hm hn hr (KO hc);subst hk;obtain⟨v,hact,hv⟩:=R.wF m om r hm hc;rw[<-Nr hag] at hact;unfold Nl at hact;have hs:=od (fun _ _ _ e=>by rw[hc] at e; simp at e);split at hact
  ·rename_i hg
   refine Kl hm (DQ h.tmps hg) (Nt Qk h.inv h.tmps hact fun v' w' g' hV hE hI=>?_);exact⟨r+1,g',w',h.push R hm (.inr ⟨KO hc,rfl⟩) (h.ext.trans hE) (fun _ _ q=>q.mono hE) hI (fun d hd=>by rw[hv d hd]; exact hV) (E8 g' hE.C1),.inl ⟨rfl,hs⟩⟩
  ·rename_i hg
   simp only[AY,Af] at hact;obtain⟨rfl,hst⟩:=hact;refine Rt hm (DQ h.tmps hg) ?_;exact⟨r+1,g,w,h.push R hm (.inr ⟨KO hc,rfl⟩) h.ext (fun _ _ q=>q) (hst ▸ h.inv) (fun d hd=>by rw[hv d hd]; exact V.undef) (E8 g fun _ q=>q),.inl ⟨rfl,hs⟩⟩
  ·simp at hact
 | q ts=>
  obtain⟨v,hq,hv⟩:=R.qF m om ts k hm hc (h.oa R hD hm hn hr (.inl hc));rw[<-JA hag] at hq;unfold FQ at hq;have hs:=od (fun _ _ _ e=>by rw[hc] at e; simp at e);split at hq
  ·rename_i hg
   refine Kl hm (DQ h.tmps hg) (Nt Qk h.inv h.tmps (ZN hq) fun v' w' g' hV hE hI=>?_);exact⟨k,g',w',h.push R hm (.inl ⟨Pt hc,rfl⟩) (h.ext.trans hE) (fun _ _ q=>q.mono hE) hI (fun d hd=>by rw[hv d hd]; exact hV) (E8 g' hE.C1),.inl ⟨rfl,hs⟩⟩
  ·rename_i hg
   simp only[AY] at hq;subst hq;refine Rt hm (DQ h.tmps hg) ?_;exact⟨k,g,w,h.push R hm (.inl ⟨Pt hc,rfl⟩) h.ext (fun _ _ q=>q) h.inv (fun d hd=>by rw[hv d hd]; exact V.undef) (E8 g fun _ q=>q),.inl ⟨rfl,hs⟩⟩
  ·simp at hq
 | h ts=>
  obtain⟨hg,d,cs,mk,id,hd,hh,hmk,ZG⟩:=R.hF m om ts hm hc;have hcs:=ZG k (h.oa R hD hm hn hr (.inr hc));rw[<-Oi (fun t ht=>hag t (Dt _ ht))] at hh;obtain⟨vs,e,mv,hrun,hvl,hV,hid⟩:=Xi h.tmps hh;have AHb:g.C1 id:=h.C1 m om ts d id hm hc hd (by rw[hmk]; exact hid id) hn;obtain⟨p1,p2,p3⟩:=h.inv.DV id AHb;obtain⟨e2,i2⟩:=h.inv.fill (L:=L) (id:=id) (q:=fun i=>g.C1 i/\i≠id) (cs:=cs) (vs:=vs) (fun _=>Iff.rfl) e p1 p2 p3 (fun b hb=>(h.inv.KM id b hb).2.2 AHb) hcs hvl.full.1 hvl.full.2;have e1:Ext L g0 w0 (g.B5 fun i=>g.C1 i/\i≠id) w:=h.ext.B5 fun i hi=>⟨h.ext.C1 i hi,fun q=>hnp m om ts d id hm hc hd (by rw[hmk]; exact hid id) (q ▸ hi)⟩
  refine Mx hm hg hrun ⟨k,_,_,h.push R hm (.inl ⟨oc hc,rfl⟩) (e1.trans e2) (fun _ _ q=>q.B5.mono e2) i2 (fun d' hd'=>?_) ?_,.inl ⟨rfl,od (fun _ _ _ e=>by rw[hc] at e; simp at e)⟩⟩
  ·rw[hd] at hd'; simp at hd'; subst hd'
   rw[hmk];exact hV _ _ id w.heap.size (by simp[AH.F1]) (Be (by rw[Bm]; exact if_pos rfl))
  ·intro i o ts' d' id' ho Ez Y0 AHc hnD hne
   refine⟨h.C1 i o ts' d' id' ho Ez Y0 AHc hnD,fun q=>hne ?_⟩;subst q;exact R.AHY i m o om ts' ts d' d id' ho hm Ez hc Y0 hd AHc (by rw[hmk]; exact hid id')
 | fa r j x=>
  have hk:=h.now R hD hm hn hr (KB hc);subst hk;obtain⟨o1,o2,kf,h1,h2,c1,c2,hf,w1,w2,w3,p1,p2,p3,v,Js,hvd,hvp⟩:=R.oX m om r j x hm hc;have yK:=R.ADY hD hm hc hr h1 h2 hf w1 w2;obtain⟨f1,f2,f3,f4,f5,f6,f7,f8,f9,f10,f11⟩:=GZ hf;have hVx:=AO h.tmps kf.x;have hVy:=AO h.tmps kf.y;have hVi:=AO h.tmps kf.ix;have hVv:=AO h.tmps kf.v;rw[<-yK _ (.inl rfl)] at hVx;rw[<-yK _ (.inr (.inl rfl))] at hVy;rw[<-yK _ (.inr (.inr (.inl rfl)))] at hVi;rw[<-yK _ (.inr (.inr (.inr rfl)))] at hVv;cases lN:Kf E L ρf (σ r) kf with
  | some res=>
   have Js:Kf E L ρf (σ r) kf=some (v,σ (r+1)):=by
    unfold NQ at Js;rw[lN] at Js;rw[lN];exact Js
   unfold Kf at Js;split at Js
   ·rename_i elem hu
    split at Js
    ·rename_i UT
     split at Js
     ·rename_i ti rows z n row Oh hrows hz cq hrow
      split at Js
      ·rename_i hcnd
       obtain⟨q1,q2,q3,q4,q5,q6,q7⟩:=hcnd;have hvl:=El hVv q4;obtain⟨t1,t2⟩:=G3 hvl hrow;obtain⟨b,cap,vz,e,fz,w1',yJ,g',a1,a2,a3,a4,a5,a6,a7,a8⟩:=MD (T:=om.type) h.inv hu Oh q6 q7 hVx hrows hVy hz q2 q5 (us:=(a.eval kf.v).cells.toList) (by omega) q3 t2 Js;obtain⟨kk,SM⟩:=FU hVi cq
       have hrun:(execOp a.eval om).run E.P w=.ok (.value (.slice (some ⟨b,0,none⟩) (rows.length+1) cap)) w1':=by
        obtain⟨dst,op,type,pos,after,guard⟩:=om;simp only at f1;subst f1;simp only[execOp,resolve,invoke,builtin,Sem.run_bind,Sem.run_pure,Result.andThen_ok];have:(#[kf.x,kf.y].map a.eval)=#[a.eval kf.x,a.eval kf.y]:=by simp
        rw[this,a1];simp
       have hnj:¬ (D j\/j=m):=fun q=>q.elim (fun q=>hn (R.MF hD h1 q p1)) (fun q=>by subst q; exact absurd (R.Nu j o1 j h1 p1) (II _))
       have wT:¬ (D x\/x=m):=fun q=>q.elim (fun q=>hn (R.MF hD h2 q p3)) (fun q=>by subst q; exact absurd (R.Nu x o2 x h2 p3) (II _))
       refine Mx hm f8.1 hrun ⟨r+1,g',yJ,h.push R hm (.inr ⟨KB hc,rfl⟩) (h.ext.trans a3) (fun _ _ q=>q.mono a3) a4 (fun d hd=>?_) (E8 g' a3.C1),.inr ?_⟩
       ·rw[f2] at hd; simp at hd; subst hd; rw[hvd]; exact a2
       ·refine⟨m,om,r,j,x,o1,o2,kf,hm,hc,h1,h2,hf,.inr rfl,wT,?_,b,cap,rows.length,vz,e,fz,a.eval kf.v,kk,elem,ti,hu,Oh,UT.2,?_,?_,?_,?_,?_,a5,a6,?_,.inl a8,fun q=>absurd q hnj⟩
        ·intro i' o' r' j' x' ho' Hl hi' hne
         rcases hi' with hi' | hi'
         ·exact .inl (hsh m i' o' r' j' x' ho' Hl hi' hne)
         ·exact absurd hi' hne
        ·rw[f2]; exact JX (by rw[h.size]; exact R.oY m om kf.d hm f2)
        ·rw[DE (fun t ht hdt=>f9 (by rw[f2] at hdt; simp at hdt; rw[ht,hdt])),SM,q1]
        ·rw[DE (fun t ht hdt=>f10 (by rw[f2] at hdt; simp at hdt; rw[ht,hdt]))]
        ·rw[<-DS]; omega
        ·exact VL.one hvl q4
        ·have:=a7; rw[<-t1,q3] at this; exact this
      ·simp at Js
     ·simp at Js
    ·simp at Js
   ·simp at Js
  | none=>
   unfold NQ at Js;rw[lN] at Js;simp only at Js;unfold ZB at Js;split at Js
   ·rename_i elem hu
    split at Js
    ·rename_i UT
     split at Js
     ·rename_i ti id off len sz n Oh hxe cq
      split at Js
      ·rename_i zs old hzs hold
       split at Js
       ·rename_i hcnd
        obtain⟨q1,q2,q3,q4,q5,q6,q7,rfl,rfl,q8,q9,q10,q11,q12⟩:=hcnd;simp only[AY,Af] at Js;obtain⟨wQ,hfs⟩:=Js;have hvl:=El hVv q4;rw[hxe] at hVx;obtain⟨b,cap,vz,e,fz,w1',yJ,g',a1,a2,a3,a4,a5,a6,a7,a8⟩:=dP (L:=L) (T:=om.type) h.inv hu Oh q6 q7 hVx hVy hzs q2 q5 hold q8 q9 q10 q11 q12 (us:=(a.eval kf.v).cells.toList) (by rw[<-hvl.len]; exact q3) hvl;rw[hfs] at a4;obtain⟨kk,SM⟩:=FU hVi cq
        have hrun:(execOp a.eval om).run E.P w=.ok (.value (.slice (some ⟨b,0,none⟩) (len+1) cap)) w1':=by
         obtain⟨dst,op,type,pos,after,guard⟩:=om;simp only at f1;subst f1;simp only[execOp,resolve,invoke,builtin,Sem.run_bind,Sem.run_pure,Result.andThen_ok];have:(#[kf.x,kf.y].map a.eval)=#[a.eval kf.x,a.eval kf.y]:=by simp
         rw[this,a1];simp
        have hnj:¬ (D j\/j=m):=fun q=>q.elim (fun q=>hn (R.MF hD h1 q p1)) (fun q=>by subst q; exact absurd (R.Nu j o1 j h1 p1) (II _))
        have wT:¬ (D x\/x=m):=fun q=>q.elim (fun q=>hn (R.MF hD h2 q p3)) (fun q=>by subst q; exact absurd (R.Nu x o2 x h2 p3) (II _))
        refine Mx hm f8.1 hrun ⟨r+1,g',yJ,h.push R hm (.inr ⟨KB hc,rfl⟩) (h.ext.trans a3) (fun _ _ q=>q.mono a3) a4 (fun d hd=>?_) (E8 g' a3.C1),.inr ?_⟩
        ·rw[f2] at hd; simp at hd; subst hd; rw[hvd,<-wQ]; exact a2
        ·refine⟨m,om,r,j,x,o1,o2,kf,hm,hc,h1,h2,hf,.inr rfl,wT,?_,b,cap,len,vz,e,fz,a.eval kf.v,kk,elem,ti,hu,Oh,UT.2,?_,?_,?_,?_,?_,a5,a6,?_,.inr ⟨_,_,_,_,by rw[hvd]; exact wQ.symm,a8,by unfold Ub; rw[hm,h1,h2]; simp only[hf,hu]; exact UT.1⟩,fun q=>absurd q hnj⟩
         ·intro i' o' r' j' x' ho' Hl hi' hne
          rcases hi' with hi' | hi'
          ·exact .inl (hsh m i' o' r' j' x' ho' Hl hi' hne)
          ·exact absurd hi' hne
         ·rw[f2]; exact JX (by rw[h.size]; exact R.oY m om kf.d hm f2)
         ·rw[DE (fun t ht hdt=>f9 (by rw[f2] at hdt; simp at hdt; rw[ht,hdt])),SM,q1]
         ·rw[DE (fun t ht hdt=>f10 (by rw[f2] at hdt; simp at hdt; rw[ht,hdt]))]
         ·rw[<-DS,<-hvl.len]; exact q3
         ·exact VL.one hvl q4
         ·have:=a7; rw[<-hvl.len,q3] at this; exact this
       ·simp at Js
      ·simp at Js
     ·simp at Js
    ·simp at Js
   ·simp at Js
 | fj=>
  obtain⟨i,o,r,x,ho,Ez⟩:=R.AHW m om hm hc;obtain⟨o1,o2,kf,h1,h2,c1,c2,hf,w1,w2,w3,p1,p2,p3,_⟩:=R.oX i o r m x ho Ez;have lR:=R.LO hD m om i hm hr p1;have hDx:=hsh m i o r m x ho Ez lR (fun e=>by subst e; rw[Ez] at hc; simp at hc);exact absurd (R.MF hD h2 hDx p2) hn
 | fx=>
  obtain⟨i,o,r,j,ho,Ez⟩:=R.AHX m om hm hc;obtain⟨o1,o2,kf,h1,h2,c1,c2,hf,w1,w2,w3,p1,p2,p3,_⟩:=R.oX i o r j m ho Ez;have lR:=R.LO hD m om i hm hr p3;exact absurd (hsh m i o r j m ho Ez lR (fun e=>by subst e; rw[Ez] at hc; simp at hc)) hn
end
end Go.Tel
