/-
  A row that is appended as zero and then written: the world meanwhile.
-/
import Derived.Test.YtpgfpakdnijngaaGreatDoorEvE
set_option linter.all false
namespace Go.Tel
theorem sV (us:List Value):∀(vs vs':List Value) (k:Nat),vs.length=vs'.length->(∀q,(q<k\/k+us.length<=q)->vs[q]?=vs'[q]?)->B4 vs k us=B4 vs' k us:=by
 induction us with
 | nil=>intro vs vs' k hl h; simp only[B4]; exact Ia λq=>h q (by grind)
 | cons u us ih=>
  grind[B4]
theorem Vc (us zs:List Value) (h:zs.length=us.length) (vs:List Value) (k:Nat):B4 (B4 vs k zs) k us=B4 vs k us:=
 sV us _ _ k (BT _ _ _) λ_ hq=>FC _ _ _ _ (by omega)
theorem sX (us:List Value):∀(os r:List Value),r.length=us.length->∀rest,B4 (os++r++rest) os.length us=os++us++rest:=by
 intro os r hr rest;apply Ia;intro q;rcases FK q os.length with a|a
 .grind[FC]
 .rcases FK q (os.length+us.length) with b|b
  .obtain⟨j,rfl⟩:∃j,q=os.length+j:=⟨q-os.length,by omega⟩
   simp_all[Gn,Ev,Cf]
  grind[FC]
theorem Sa {os rest:List Value} (zs us:List Value) (h:zs.length=us.length):B4 (os++zs++rest) os.length us=os++us++rest:=sX us os zs h rest
theorem GJ {w:World} {vs us:List Value} {e:TypeId}:A7 (CV w vs e) w.heap.size us e=CV w us e:=by
 refine I0 ?_ rfl rfl rfl rfl;apply Re
 grind[BQ,CV]
theorem VP.one {I:Nat->Nat->Prop} {w:World} {p:PV} {u:Value} (g:AI) (hg:g.I=I) (h:VP I w p u) (ho:A1 (.pv p)=true):u.oneCell'=true:=by
 subst hg;exact JG (.pv h) ho
theorem Flat.one {I:Nat->Nat->Prop} {w:World} {z:List PV} {us:List Value} (g:AI) (hg:g.I=I) (h:Flat I w [z] z.length us) (ho:(z.map AV.pv).all A1=true):∀u∈us,u.oneCell'=true:=by
 intro u hu;obtain⟨j,hj,rfl⟩:=N5.1 hu;have hlen:=h.len;simp at hlen;obtain⟨u',h1,h2⟩:=h.at_ 0 z j z[j] rfl (by simp)
 grind[VP.one]
theorem Lu {E:Env} {L:A3} {g:AI} {w:World} {s s':AM} (hI:Inv E g w s) {t elem T:TypeId} {i:TypeInfo} {x y v:AV} {xv yv:Value} {rows:List (List PV)} {z row:List PV} {us:List Value}
  (ht:E.P.underlying t=some (.slice elem)) (hi:E.P.info? elem=some i) (hk:i.size≠0) (hze:(zeroOf E.P elem).map List.length=some i.size)
  (hx:V g w x xv) (hxr:rowsOf x=some rows) (hy:V g w y yv) (hyr:rowsOf y=some [z]) (hzl:z.length=i.size) (hzo:(z.map AV.pv).all A1=true)
  (hus:us.length=i.size) (hrow:row.length=i.size) (hvp:∀(j:Nat) p,row[j]?=some p->∃u,us[j]?=some u/\VP g.I w p u)
  (h:KH L s elem i x row=some (v,s')) :
  ∃b cap vz e fz w1 wv g',
   (Builtin.append_ #[t,t] T #[xv,yv]).run E.P w=.ok (.slice (some ⟨b,0,none⟩) (rows.length+1) cap) w1 /\
   V g' wv v (.slice (some ⟨b,0,none⟩) (rows.length+1) cap)/\Ext L g w g' wv/\Inv E g' wv s' /\
   wv.heap[b]?=some (.cells ⟨B4 vz (rows.length*i.size) us⟩ e fz)/\w1=A7 wv b vz e fz/\(rows.length*i.size+us.length<=vz.length/\fz.2<=rows.length*i.size) /\
   (∃k l,g'.tok k=some l/\l.b=b):=by
 obtain⟨AMX,Ge,yb,yo,ysz,yf,rfl,AYN,ATn⟩:=Dp hy hyr;obtain⟨zs,hzf,_,ADY⟩:=ATn.VY (k:=i.size) hk (by grind) Ge;have AHe:zs.length=i.size:=by have:=hzf.len; grind
 have sY:∀u∈zs,u.oneCell'=true:=Flat.one g rfl (by rw[hzl]; omega) hzo;obtain⟨zz,hzz⟩:∃zz,zeroOf E.P elem=some zz:=by grind[zeroOf]
 obtain⟨i',zv,hi',nu,_,AHf⟩:=Dn (g:=g) (w:=w) hzz;have:i'=i:=by grind
 subst this;have hse:DZ E.P elem=some i'.size:=by grind[DZ]
 have hzs:zv.cells.size=i'.size:=by rw[<-Hl,<-AHf.len]; grind
 have hn:(Builtin.lenOf (.slice AMX [z].length Ge)).run E.P w=.ok 1 w:=Zh _ _ _;have hd:∀k,TypeDesc.slice elem≠.int k:=λk e=>by grind
 have hfn:Flat g.I w [row] i'.size us:=by
  have:=Hz (k:=i'.size) (n:=1) (ps:=row) (us:=us) (I:=g.I) (w:=w) (by omega) (by omega) hvp
  grind[CD]
 unfold KH at h;split at h
 .rename_i D1
  simp[rowsOf] at hxr; subst hxr;split at h
  .rename_i hc
   obtain⟨N3,M9,hall⟩:=hc;have hl:=K2 hall;simp only[Aw,A4] at h;obtain⟨rfl,rfl⟩:=h;cases hx with
   | @AB _ base b o sz f hr=>
    obtain⟨os,hfo,_,SV⟩:=hr.VY hk hl D1.length;obtain⟨G2,rest,Na,SP,hrun⟩:=run_append_grow (base:=base) (sCap:=D1.length) T [] ht hi ht hd hn (ADY E.P (BK w) rfl) (SV E.P (BK w) rfl) nu (by omega) N3 M9;obtain⟨e1,i1⟩:=hI.drew (L:=L);have sR:=hfo.append hfn
    have eT:(os++us++rest).length=G2*i'.size:=by
     simp only[B7,hfo.len,hus,SP,hzs];rw[show D1.length*i'.size+i'.size=(D1.length+1)*i'.size by grind,<-Dm];rw[show D1.length+1+(G2-(D1.length+1))=G2 by omega]
    obtain⟨e3,i3⟩:=i1.ja (L:=L) (t:=s.ts.length) (n:=D1.length+1) (e:=elem) eT Na hk hse (.inl ⟨rfl,rfl⟩);have hrl:(D1++[row]).length=D1.length+1:=by simp
    refine⟨w.heap.size,G2,os++zs++rest,elem,(0,0),_,CV (BK w) (os++us++rest) elem,_,hrun,?_,e1.trans e3,i3,?_,?_,?_,s.ts.length,⟨(BK w).heap.size,G2,i'.size,D1.length+1,elem⟩,by simp[AI.GH],rfl⟩
    .have hV:=Gp (g:=g.GH s.ts.length ⟨(BK w).heap.size,G2,i'.size,D1.length+1,elem⟩) (w:=CV (BK w) (os++us++rest) elem) (t:=s.ts.length) (b:=(BK w).heap.size) (cap:=G2) (e:=elem)
      (by simp[AI.GH]) (sR.mono (e1.trans e3).mono (e1.trans e3).cell) hrl Na (λo ho=>.inr ⟨rfl,ho⟩) (λq u hq=>by
       rw[Bg (by rw[B5]; exact if_pos rfl),Cf (Cy hq)]; omega)
     rw[hrl] at hV;exact hV
    .rw[B5,if_pos (show w.heap.size=(BK w).heap.size from rfl),<-hfo.len,Sa zs us (by omega)]
    .grind[GJ,BK]
    .exact⟨by simp[hfo.len,AHe,hus],AK _⟩
  grind
 .rename_i k D1
  simp[rowsOf] at hxr; subst hxr;split at h
  .rename_i hc
   obtain⟨N3,M9,hts,GZ,hall⟩:=hc;have hl:=K2 hall;simp only[Aw,A4] at h;obtain⟨rfl,rfl⟩:=h;have hrl:(D1++[row]).length=D1.length+1:=by simp
   cases hx with
   | @own _ _ base b o sz cap f l hr hcap VZ N4 hf=>
    obtain⟨l',Ug,Rq,ATf⟩:=hI.Gc k _ _ hts;have:l'=l:=by grind
    subst this;obtain⟨rfl,rfl,rfl,rfl,rfl⟩:=hf Rq.symm;obtain⟨os,hfo,hco,SV⟩:=hr.VY hk hl l'.cap;have sR:=hfo.append hfn;obtain⟨vs,fz,hh,ATh,hnc,hsz,hfz,hsl⟩:=hI.tok k l' VZ;have qV:l'.sz=i'.size:=by grind
    by_cases hroom:D1.length+1<=l'.cap
    .have hbd:l'.n*l'.sz+i'.size<=vs.length:=by
      have:=CJ i'.size hroom
      grind
     have hst:=FB (P:=E.P) (b:=l'.b) (o:=l'.n*l'.sz) (e:=l'.e) hfz zs 0 w vs sY hh (by omega);obtain⟨e3,i3⟩:=hI.ADV (L:=L) (n:=D1.length+1) (us:=us) VZ hh (by omega) hroom GZ;have i3':Inv E (g.GH k { l' with n:=D1.length+1 }) (A7 w l'.b (B4 vs (l'.n*l'.sz) us) l'.e fz) { s with ts:=s.ts.set k (D1.length+1,elem) }:=by grind
     refine⟨l'.b,l'.cap,B4 vs (l'.n*l'.sz) zs,l'.e,fz,A7 w l'.b (B4 vs (l'.n*l'.sz) zs) l'.e fz,A7 w l'.b (B4 vs (l'.n*l'.sz) us) l'.e fz,_,?_,?_,e3,i3',?_,?_,?_,k,{ l' with n:=D1.length+1 },by simp[AI.GH],rfl⟩
     .simp_all[run_append_room,DH]
     .have hV:=Gp (g:=g.GH k { l' with n:=D1.length+1 }) (w:=A7 w l'.b (B4 vs (l'.n*l'.sz) us) l'.e fz) (t:=k) (b:=l'.b) (cap:=l'.cap) (sz:=l'.sz) (e:=l'.e)
       (by simp[AI.GH]) (Flat.AMW qV.symm (sR.mono e3.mono e3.cell)) hrl hroom (λo ho=>.inr ⟨rfl,ho⟩) (λq u hq=>by
        rw[Bg (by rw[BQ,if_pos rfl,if_pos (hI.Fc VZ)])];rcases FK q os.length with x|x
        .rw[Cf x] at hq
         have:=(hco q u hq).2;rw[Bg hh,Cg] at this;rw[FC us vs _ _ (.inl (by rw[Rq,qV,<-hfo.len]; exact x))];omega
        .rw[Ev x] at hq
         have:=Gn us vs (l'.n*l'.sz) _ u hq (by omega);rw[Rq,qV,<-hfo.len,show os.length+(q-os.length)=q by omega] at this;rw[Rq,qV,<-hfo.len];omega)
      grind
     .grind[BQ,Vc]
     .exact D9.symm
     grind[BT]
    .obtain⟨G2,rest,Na,SP,hrun⟩:=run_append_grow (base:=some ⟨l'.b,0,none⟩) (sCap:=l'.cap) T [] ht hi ht hd hn (ADY E.P (BK w) rfl) (SV E.P (BK w) rfl) nu (by omega) N3 M9
     obtain⟨e1,i1⟩:=hI.drew (L:=L)
     have eT:(os++us++rest).length=G2*i'.size:=by
      simp only[B7,hfo.len,hus,SP,hzs];rw[show D1.length*i'.size+i'.size=(D1.length+1)*i'.size by grind,<-Dm];rw[show D1.length+1+(G2-(D1.length+1))=G2 by omega]
     obtain⟨e3,i3⟩:=i1.ja (L:=L) (t:=k) (n:=D1.length+1) (e:=elem) eT Na hk hse (.inr ⟨l',VZ,by omega,GZ,rfl⟩);refine⟨w.heap.size,G2,os++zs++rest,elem,(0,0),_,CV (BK w) (os++us++rest) elem,_,hrun,?_,e1.trans e3,i3,?_,?_,?_,k,⟨(BK w).heap.size,G2,i'.size,D1.length+1,elem⟩,by simp[AI.GH],rfl⟩
     .have hV:=Gp (g:=g.GH k ⟨(BK w).heap.size,G2,i'.size,D1.length+1,elem⟩) (w:=CV (BK w) (os++us++rest) elem) (t:=k) (b:=(BK w).heap.size) (cap:=G2) (e:=elem)
       (by simp[AI.GH]) (sR.mono (e1.trans e3).mono (e1.trans e3).cell) hrl Na (λo ho=>.inr ⟨rfl,ho⟩) (λq u hq=>by
        rw[Bg (by rw[B5]; exact if_pos rfl),Cf (Cy hq)]; omega)
      rw[hrl] at hV;exact hV
     .rw[B5,if_pos (show w.heap.size=(BK w).heap.size from rfl),<-hfo.len,Sa zs us (by omega)]
     .grind[GJ,BK]
     .exact⟨by simp[hfo.len,AHe,hus],AK _⟩
  grind
 grind
theorem eX {E:Env} {L:A3} {g:AI} {w:World} {s:AM} (hI:Inv E g w s) {t elem T:TypeId} {i:TypeInfo} {y:AV} {xv yv:Value} {id len:Nat} {old zs cells:List AV} {us:List Value}
  (ht:E.P.underlying t=some (.slice elem)) (hi:E.P.info? elem=some i) (hk:i.size≠0) (hze:(zeroOf E.P elem).map List.length=some i.size)
  (hx:V g w (.ref id 0 len i.size) xv) (hy:V g w y yv) (hzs:DN s i.size y=some zs) (hzl:zs.length=i.size) (hzo:zs.all A1=true)
  (hold:s.bs[id]?=some old) (hlo:len*i.size<=old.length) (hal:Tel.alive s id=true) (N3:(len+1)*i.bytes<=2 ^ 45) (M9:len+1<=2 ^ 45) (hro:L.ro<=id)
  (hus:us.length=i.size) (hvl:VL g w cells us) :
  ∃b cap vz e fz w1 wv g',
   (Builtin.append_ #[t,t] T #[xv,yv]).run E.P w=.ok (.slice (some ⟨b,0,none⟩) (len+1) cap) w1 /\
   V g' wv (.ref s.bs.length 0 (len+1) i.size) (.slice (some ⟨b,0,none⟩) (len+1) cap)/\Ext L g w g' wv/\Inv E g' wv { s with bs:=s.bs.set id []++[old.take (len*i.size)++cells] } /\
   wv.heap[b]?=some (.cells ⟨B4 vz (len*i.size) us⟩ e fz)/\w1=A7 wv b vz e fz/\(len*i.size+us.length<=vz.length/\fz.2<=len*i.size) /\
   g'.blk s.bs.length=some b:=by
 obtain⟨zz,hzz⟩:∃zz,zeroOf E.P elem=some zz:=by grind[zeroOf]
 obtain⟨i',zv,hi',nu,_,AHf⟩:=Dn (g:=g) (w:=w) hzz;have:i'=i:=by grind
 subst this;have ATo:zv.cells.size=i'.size:=by rw[<-Hl,<-AHf.len]; grind
 obtain⟨n,zsv,hn,Ba,hfc,ADZ⟩:=JH hI hy hk hzs
 have hn1:n=1:=by
  rw[hzl] at Ba;exact(Nat.eq_of_mul_eq_mul_right (Nat.pos_of_ne_zero hk) (by omega)).symm
 subst hn1;have sY:∀u∈zsv,u.oneCell'=true:=ADZ.one hzo;have AHe:zsv.length=i'.size:=by rw[<-ADZ.len]; omega
 have hcells:cells.length=i'.size:=by rw[hvl.len]; omega
 have hd:∀k,TypeDesc.slice elem≠.int k:=λk e=>by grind
 cases hx with
 | Il hd=>exact absurd hd (hI.alive hal)
 | @ref _ _ _ _ b cap n' e H6 hcap hs hn'=>
  obtain⟨cs',vs,e',k1,k2,kle,k3⟩:=hI.blk id b H6;rw[hold] at k1; simp only[Aw] at k1; subst k1;have hsh:vs.length=n':=by rw[Bh k2] at hs; grind
  have k4:VL g w (old.take (len*i'.size)) (vs.take (len*i'.size)):=by
   have:=k3.take (len*i'.size)
   grind
  have hol:(old.take (len*i'.size)).length=len*i'.size:=by grind
  by_cases hroom:len+1<=cap
  .have hbd:len*i'.size+us.length<=vs.length:=by
    have:=CJ i'.size hroom
    grind
   have hst:=Fe (P:=E.P) (b:=b) (o:=len*i'.size) (e:=e') zsv 0 w vs sY k2 (by omega)
   obtain⟨e1,e2⟩:=hI.sQ (L:=L) (cs':=old.take (len*i'.size)++cells) (vs':=B4 vs (len*i'.size) us) H6 k2 (BT _ _ _) hro
    (by grind[BT])
    (by rw[B7,hol,hvl.len,KO us vs _ hbd]; exact k4.append hvl)
   refine⟨b,cap,B4 vs (len*i'.size) zsv,e',(0,0),A7 w b (B4 vs (len*i'.size) zsv) e',A7 w b (B4 vs (len*i'.size) us) e',_,?_,V.ref (b:=b) (e:=e') (n:=n') ?_ hroom ?_ hn',e1,e2,?_,?_,?_,?_⟩
   .simp[*,run_append_room,DH]
   .simp[AI.Ff]
   .grind[Bh,BQ,BT]
   .grind[BQ,Vc]
   .exact D9.symm
   all_goals grind[BT,AI.Ff]
  .have hvt:(vs.take (len*i'.size)).length=len*i'.size:=by grind
   have hos:(Builtin.firstCells i'.size len (.slice (some ⟨b,0,none⟩) len cap)).run E.P (BK w)=.ok (List.toArray (vs.take (len*i'.size))) (BK w):=by grind[Builtin.firstCells,EP,BK,Bg]
   obtain⟨G2,rest,Na,SP,hrun⟩:=run_append_grow (base:=some ⟨b,0,none⟩) (sCap:=cap) T [] ht hi ht hd hn (hfc (BK w) rfl) hos nu (by omega) N3 M9;obtain⟨e1,i1⟩:=hI.drew (L:=L);obtain⟨e2,i2⟩:=i1.kill (L:=L) H6 hro;have hpre:(old.take (len*i'.size)++cells).length<=(vs.take (len*i'.size)++us++rest).length:=by grind
   have VZ:(vs.take (len*i'.size)++us++rest).take (old.take (len*i'.size)++cells).length=vs.take (len*i'.size)++us:=by
    rw[Rf (by grind)]
   obtain⟨e3,i3⟩:=i2.SL (L:=L) (cs:=old.take (len*i'.size)++cells) (vs:=vs.take (len*i'.size)++us++rest) elem hpre (by rw[VZ]; exact((k4.append hvl).mono e1).mono e2);have hl:({ s with bs:=s.bs.set id [] }:AM).bs.length=s.bs.length:=by simp
   refine⟨w.heap.size,G2,vs.take (len*i'.size)++zsv++rest,elem,(0,0),_,CV (BK w) (vs.take (len*i'.size)++us++rest) elem,_,hrun,?_,(e1.trans e2).trans e3,i3,?_,?_,?_,?_⟩
   .refine V.ref (b:=w.heap.size) (e:=elem) (n:=(vs.take (len*i'.size)++us++rest).length) ?_ Na ?_ ?_
    .simp[AI.Ff,BK]
    .exact Bh (by rw[B5]; exact if_pos rfl)
    .simp only[B7,hvt,hus,SP,ATo]
     have h1:len*i'.size+i'.size=(len+1)*i'.size:=by grind
     rw[h1,<-Dm]
     grind
   all_goals grind[B5,BK,Sa,GJ,AI.Ff]
theorem X2 {w:World} {b b':Nat} {vs us:List Value} {e e':TypeId} {fz fz':Nat×Nat} (h:b≠b'):A7 (A7 w b vs e fz) b' us e' fz'=A7 (A7 w b' us e' fz') b vs e fz:=by
 refine I0 ?_ rfl rfl rfl rfl;exact Array.setIfInBounds_comm _ _ h
theorem eY {E:Env} {L:A3} {g:AI} {w:World} {s s':AM} (hI:Inv E g w s) {t:TypeId} {a x:AV} {av xv:Value}
  (ha:V g w a av) (hx:V g w x xv) (h:NV E L s t a x=some s') :
  ∃id b vs e,(∃off,a=.ptr id off)/\g.blk id=some b/\Ext L g w g (A7 w b vs e)/\Inv E g (A7 w b vs e) s' /\
   ∀w2:World,w2.heap[b]?=w.heap[b]?->(Instr.storeAt t av xv).run E.P w2=.ok () (A7 w2 b vs e):=by
 unfold NV at h;split at h
 .rename_i id off i hi
  split at h
  .rename_i cs hcs
   simp only at h;split at h
   .rename_i hc
    obtain⟨h1,h2,h3,h4,_,hi0⟩:=hc;simp at h; subst h;simp only[Qg] at hcs;cases ha with
    | KM hd=>
     have:=hI.DW id hd
     grind
    | @ptr _ _ b hb=>
     obtain⟨cs',vs,e,k1,k2,kle,k3⟩:=hI.blk id b hb;rw[hcs] at k1; simp at k1; subst k1;have hv:=EO hx h4;have hone:∀u∈xv.cells.toList,u.oneCell'=true:=VL.one hv h4;have hlen:xv.cells.size=i.size:=by rw[<-Hl,<-hv.len]; omega
     obtain⟨q1,q2⟩:=hI.putRow (L:=L) (vs':=B4 vs off xv.cells.toList) (cs':=setCells cs off (cellsOf x)) hb k2 (BT _ _ _) h3 (by grind[FA,BT]) (by grind[FA,VW,VL.setCells]);refine⟨id,b,_,e,⟨off,rfl⟩,hb,q1,q2,λw2 hw2=>?_⟩;simp only[Instr.storeAt,Instr.sureAddr,storeVar,Sem.run_bind,Sem.run_pure,Result.andThen_ok,run_sizeOf hi,hlen,ne_eq,not_true_eq_false,IZ];have:=Fe (P:=E.P) (b:=b) (o:=off) (e:=e) xv.cells.toList 0 w2 vs hone (hw2.trans k2) (by grind);omega
   grind
  grind
 grind
theorem sZ {E:Env} {L:A3} {g:AI} {w:World} {s:AM} {ρ:Nat->AV} {a:Act} {o:Oper} {v:AV} (ho:(∃x,o.op=.nilCheck x)\/(∃t x f,o.op=.fieldAddr t x f)\/(∃x,o.op=.move x))
  (hI:Inv E g w s) (hρ:∀t,V g w (ρ t) (a.tmps.getD t undef)) (h:JA E L ρ s o=some v) :
  ∃v',(∀w2:World,(execOp a.eval o).run E.P w2=.ok (.value v') w2)/\V g w v v':=by
 have h:=SX h;obtain⟨dst,op,type,pos,after,guard⟩:=o;rcases ho with ⟨x,rfl⟩|⟨t,x,f,rfl⟩|⟨x,rfl⟩
 .simp only[Ca] at h
  split at h
  .rename_i u hu
   simp at h; subst h;exact Lv _ rfl hI hρ hu
  grind
 .simp only[Ca] at h
  split at h
  .rename_i u hu
   simp at h; subst h;obtain⟨v',hr,hv⟩:=KN hI (Ae hρ x) hu;simp[*,execOp]
  grind
 .simp only[Ca,Aw,A4] at h
  obtain⟨rfl,_⟩:=h
  simp_all[execOp,Ae]
structure Uu (E:Env) (L:A3) (cf:Cn) (ops:Array Oper) (p:BS) (K N:Nat) (ρ0 ρf:Nat->AV) (σ:Nat->AM):Prop where
 ABS:∀(i:Nat) o e,ops[i]?=some o->e∈o.after->Region.binds .any e=true->e.on<i
 pre:∀(i:Nat) o j,ops[i]?=some o->j∈Dl p i->∃e,e∈o.after/\Region.binds .any e=true/\(e.on=j\/j∈Dl p e.on)
 cls:∀(i:Nat) o,ops[i]?=some o->∃c,p.cls[i]?=some c
 dst:∀(i j:Nat) oi oj d,ops[i]?=some oi->ops[j]?=some oj->oi.dst=some d->oj.dst=some d->i=j
 read:∀(i j:Nat) oi oj d,ops[i]?=some oi->ops[j]?=some oj->oj.dst=some d->d∈Gq ops oi++F0 oi ->
  (has (HO p.GI i) d=true/\(j=i\/i∈Dl p j))\/(has (HO p.GI i) d=false/\j∈Dl p i)
 rk:∀(i j:Nat) oi oj r r',ops[i]?=some oi->ops[j]?=some oj->Er p i=some r->Er p j=some r'->r<r'->i∈Dl p j
 ADa:∀(i j:Nat) oi oj r,ops[i]?=some oi->ops[j]?=some oj->Er p i=some r->Er p j=some r->i=j
 AHg:∀k,k<K->∃(i:Nat) (o:Oper),ops[i]?=some o/\Er p i=some k
 AHh:∀(i:Nat) o r,ops[i]?=some o->Er p i=some r->r<K
 time:∀(i:Nat) o ts,ops[i]?=some o->(p.cls[i]?=some (.q ts)\/p.cls[i]?=some (.h ts))->∀k,k<=K->k∉ts ->
  ∃(j:Nat) (oj:Oper) (r:Nat),ops[j]?=some oj/\Er p j=some r/\((j∈Dl p i/\k<=r)\/(i∈Dl p j/\r<k))
 sg:∀(i:Nat) o r (j x:Nat),ops[i]?=some o->p.cls[i]?=some (.fa r j x)->∃o1 o2 k,ops[j]?=some o1/\ops[x]?=some o2/\p.cls[j]?=some .fj/\p.cls[x]?=some .fx/\fused o o1 o2=some k /\
  HO p.GI i=[]/\HO p.GI j=[]/\HO p.GI x=[]/\i∈Dl p j/\j∈Dl p x/\i∈Dl p x /\
  ∃v,KI E L ρf (σ r) k=some (v,σ (r+1))/\ρf k.d=v/\ρf k.p=.Gz
 win:∀(i:Nat) o r (j x:Nat),ops[i]?=some o->p.cls[i]?=some (.fa r j x)->∀(m:Nat) om,ops[m]?=some om->m≠i->m≠j->m≠x ->
  (m∈Dl p i\/x∈Dl p m\/Xv ops p m=true)/\∀d,om.dst=some d->(d∈Dq ops j\/d∈Dq ops x)->m∈Dl p i
 mu:∀(i:Nat) o r (j x d E3 off len sz:Nat),RH E L ops i j x=true->ops[i]?=some o->p.cls[i]?=some (.fa r j x)->o.dst=some d->ρf d=.ref E3 off len sz->∀(m:Nat) om r' t y z,ops[m]?=some om->p.cls[m]?=some (.w r')->om.op=.store t y z ->
  ∀id off',AX (FO p.GI ρ0 ρf m) y=.ptr id off'->id≠E3
 AMY:∀(j:Nat) oj,ops[j]?=some oj->p.cls[j]?=some .fj->∃(i:Nat) (o:Oper) (r x:Nat),ops[i]?=some o/\p.cls[i]?=some (.fa r j x)
 AMZ:∀(x:Nat) ox,ops[x]?=some ox->p.cls[x]?=some .fx->∃(i:Nat) (o:Oper) (r j:Nat),ops[i]?=some o/\p.cls[i]?=some (.fa r j x)
 out:∀t,(∀(i:Nat) o,ops[i]?=some o->o.dst≠some t)->ρf t=ρ0 t
 si:∀(i:Nat) o d,ops[i]?=some o->o.dst=some d->d<N
 wF:∀(i:Nat) o r,ops[i]?=some o->p.cls[i]?=some (.w r)->∃v,NY E L cf ops (FO p.GI ρ0 ρf i) (σ r) o=some (v,σ (r+1))/\∀d,o.dst=some d->ρf d=v
 qF:∀(i:Nat) o ts k,ops[i]?=some o->p.cls[i]?=some (.q ts)->k∈ts->∃v,E2 E L ops (FO p.GI ρ0 ρf i) (σ k) o=some v/\∀d,o.dst=some d->ρf d=v
 hF:∀(i:Nat) o ts,ops[i]?=some o->p.cls[i]?=some (.h ts)->o.guard=none/\∃d cs mk id,o.dst=some d/\hcells E (FO p.GI ρ0 ρf i) o=some (cs,mk)/\ρf d=mk id/\∀k∈ts,(σ k).bs[id]?=some cs
 AMa:∀(i j:Nat) oi oj ts us d e id,ops[i]?=some oi->ops[j]?=some oj->p.cls[i]?=some (.h ts)->p.cls[j]?=some (.h us)->oi.dst=some d->oj.dst=some e->KJ (ρf d)=some id->KJ (ρf e)=some id->i=j
section
variable {E:Env} {L:A3} {cf:Cn} {ops:Array Oper} {p:BS} {K N:Nat} {ρ0 ρf:Nat->AV} {σ:Nat->AM}
theorem Uu.sj (R:Uu E L cf ops p K N ρ0 ρf σ):∀i o j,ops[i]?=some o->j∈Dl p i->j<i:=by
 intro i
 induction i using Nat.strongRecOn with
 | ind i ih=>
  intro o j ho hj;obtain⟨e,he,hb,h⟩:=R.pre i o j ho hj;have hlt:=R.ABS i o e ho he hb
  grind
def Down (ops:Array Oper) (D:Nat->Prop):Prop:=∀(i:Nat) o e,ops[i]?=some o->D i->e∈o.after->Region.binds .any e=true->D e.on
theorem Uu.K4 (R:Uu E L cf ops p K N ρ0 ρf σ) {D:Nat->Prop} (hD:Down ops D):∀i o j,ops[i]?=some o->(∀e∈o.after,Region.binds .any e=true->D e.on)->j∈Dl p i->D j:=by
 intro i
 induction i using Nat.strongRecOn with
 | ind i ih=>
  intro o j ho hr hj;obtain⟨e,he,hb,h⟩:=R.pre i o j ho hj;have hlt:=R.ABS i o e ho he hb;have hde:=hr e he hb;rcases h with rfl|h
  .omega
  .obtain⟨oe,hoe⟩:∃oe,ops[e.on]?=some oe:=⟨ops[e.on]'(by grind),by simp⟩
   exact ih e.on hlt oe j hoe (λe' he' hb'=>hD e.on oe e' hoe hde he' hb') h
theorem Uu.Lx (R:Uu E L cf ops p K N ρ0 ρf σ) {D:Nat->Prop} (hD:Down ops D) {i j:Nat} {o:Oper} (ho:ops[i]?=some o) (hi:D i) (hj:j∈Dl p i):D j:=
 R.K4 hD i o j ho (λe he hb=>hD i o e ho hi he hb) hj
open Classical in
noncomputable def rho (ops:Array Oper) (ρ0 ρf:Nat->AV) (D:Nat->Prop) (t:Nat):AV:=if ∃(i:Nat) (o:Oper),ops[i]?=some o/\o.dst=some t/\D i then ρf t else ρ0 t
theorem Sb {D:Nat->Prop} {t i:Nat} {o:Oper} (ho:ops[i]?=some o) (hd:o.dst=some t) (hi:D i):rho ops ρ0 ρf D t=ρf t:=if_pos ⟨i,o,ho,hd,hi⟩
theorem Rt {D:Nat->Prop} {t:Nat} (h:∀(i:Nat) (o:Oper),ops[i]?=some o->o.dst=some t->¬ D i):rho ops ρ0 ρf D t=ρ0 t:=if_neg (λ⟨i,o,ho,hd,hi⟩=>h i o ho hd hi)
theorem Uu.Sc (R:Uu E L cf ops p K N ρ0 ρf σ) {D:Nat->Prop} {t:Nat} (h:∀(i:Nat) (o:Oper),ops[i]?=some o->o.dst≠some t):rho ops ρ0 ρf D t=ρf t:=by
 rw[Rt (λi o ho hd=>absurd hd (h i o ho)),R.out t h]
theorem Uu.agree (R:Uu E L cf ops p K N ρ0 ρf σ) {D:Nat->Prop} (hD:Down ops D) {i:Nat} {o:Oper} (ho:ops[i]?=some o) (hn:¬ D i) (hr:∀e∈o.after,Region.binds .any e=true->D e.on) :
  ∀t∈Gq ops o++F0 o,rho ops ρ0 ρf D t=FO p.GI ρ0 ρf i t:=by
 intro t ht;unfold FO
 by_cases hw:∃(j:Nat) (oj:Oper),ops[j]?=some oj/\oj.dst=some t
 .obtain⟨j,oj,sk,sq⟩:=hw
  rcases R.read i j o oj t ho sk sq ht with ⟨h1,h2⟩|⟨h1,h2⟩
  .rw[h1,AH]
   refine Rt λk ok hok hdk hDk=>?_
   have:k=j:=R.dst k j ok oj t hok sk hdk sq;subst this;rcases h2 with rfl|h2
   .grind
   .exact hn (R.Lx hD hok hDk h2)
  .rw[h1,AE]
   exact Sb sk sq (R.K4 hD i o j ho hr h2)
 .have hno:∀(j:Nat) (oj:Oper),ops[j]?=some oj->oj.dst≠some t:=λj oj sk sq=>hw ⟨j,oj,sk,sq⟩
  rw[R.Sc hno];cases has (HO p.GI i) t with
  | true=>rw[AH,R.out t hno]
  | false=>rfl
end
def Open (P:Program) (q:AV) (X:Prop) (kf:I8) (Dj:Prop) (a:Act) (g:AI) (w wv:World):Prop:=
 ∃(b cap len:Nat) (vz:List Value) (e:TypeId) (fz:Nat×Nat) (xv:Value) (kk:IntKind) (elem:TypeId) (ti:TypeInfo),
  P.underlying kf.t=some (.slice elem)/\P.info? elem=some ti/\kf.te=elem /\
  a.eval (.tmp kf.d)=.slice (some ⟨b,0,none⟩) (len+1) cap/\a.eval kf.ix=.int kk (len:Int)/\a.eval kf.v=xv/\xv.cells.size=ti.size/\(∀u∈xv.cells.toList,u.oneCell'=true) /\
  wv.heap[b]?=some (.cells ⟨B4 vz (len*ti.size) xv.cells.toList⟩ e fz)/\w=A7 wv b vz e fz/\(len*ti.size+ti.size<=vz.length/\fz.2<=len*ti.size)/\((∃k l,g.tok k=some l/\l.b=b)\/∃E3 off n sz,q=.ref E3 off n sz/\g.blk E3=some b/\X) /\
  (Dj->a.eval (.tmp kf.p)=.pointer (some ⟨b,len*ti.size,none⟩))
def Mz (ops:Array Oper) (p:BS) (D:Nat->Prop) (i:Nat):Prop:=∀(i':Nat) o' r' (j' x':Nat),ops[i']?=some o'->p.cls[i']?=some (.fa r' j' x')->D i'->i'≠i->D x'
def Window (E:Env) (L:A3) (ρf:Nat->AV) (ops:Array Oper) (p:BS) (D:Nat->Prop) (a:Act) (g:AI) (w wv:World):Prop:=
 (w=wv/\∀i,Mz ops p D i) \/
 ∃(i:Nat) (o:Oper) (r j x:Nat) (o1 o2:Oper) (kf:I8),ops[i]?=some o/\p.cls[i]?=some (.fa r j x)/\ops[j]?=some o1/\ops[x]?=some o2/\fused o o1 o2=some kf/\D i/\¬ D x /\
  Mz ops p D i/\Open E.P (ρf kf.d) (RH E L ops i j x=true) kf (D j) a g w wv
structure Core (E:Env) (L:A3) (ops:Array Oper) (p:BS) (K N:Nat) (ρ0 ρf:Nat->AV) (σ:Nat->AM) (ds:List Deferred) (g0:AI) (w0:World) (D:Nat->Prop) (a:Act) (k:Nat) (g:AI) (wv:World):Prop where
 kK:k<=K
 time:∀(i:Nat) o r,ops[i]?=some o->Er p i=some r->(D i<->r<k)
 size:a.tmps.size=N
 defers:a.defers=ds
 ext:Ext L g0 w0 g wv
 inv:Inv E g wv (σ k)
 tmps:∀t,V g wv (rho ops ρ0 ρf D t) (a.tmps.getD t undef)
 C5:∀(i:Nat) o ts d id,ops[i]?=some o->p.cls[i]?=some (.h ts)->o.dst=some d->KJ (ρf d)=some id->¬ D i->g.C5 id
def J (E:Env) (L:A3) (ops:Array Oper) (p:BS) (K N:Nat) (ρ0 ρf:Nat->AV) (σ:Nat->AM) (ds:List Deferred) (g0:AI) (w0:World) (D:Nat->Prop) (a:Act) (w:World):Prop:=
 ∃k g wv,Core E L ops p K N ρ0 ρf σ ds g0 w0 D a k g wv/\Window E L ρf ops p D a g w wv
theorem Sd (a:Act) (d:Option Tmp) (v:Value):(a.put d v).tmps.size=a.tmps.size:=by cases d <;> simp[Act.put]
theorem put_defers (a:Act) (d:Option Tmp) (v:Value):(a.put d v).defers=a.defers:=by cases d <;> rfl
theorem JJ {a:Act} {d:Nat} {v:Value} (h:d<a.tmps.size):(a.put (some d) v).tmps.getD d undef=v:=by simp[Act.put,h]
theorem Ph {a:Act} {d:Option Tmp} {v:Value} {t:Nat} (h:d≠some t):(a.put d v).tmps.getD t undef=a.tmps.getD t undef:=by
 cases d with
 | none=>rfl
 | some d=>
  simp_all[Act.put]
section
variable {E:Env} {L:A3} {cf:Cn} {ops:Array Oper} {p:BS} {K N:Nat} {ρ0 ρf:Nat->AV} {σ:Nat->AM} {ds:List Deferred} {g0:AI} {w0:World}
theorem Core.push (R:Uu E L cf ops p K N ρ0 ρf σ) {D:Nat->Prop} {a:Act} {k k':Nat} {g g':AI} {wv wv':World} (h:Core E L ops p K N ρ0 ρf σ ds g0 w0 D a k g wv) {m:Nat} {om:Oper} (hm:ops[m]?=some om)
  (hk:(Er p m=none/\k'=k)\/(Er p m=some k/\k'=k+1)) (ATr:Ext L g0 w0 g' wv') (hmono:∀x u,V g wv x u->V g' wv' x u) (hinv:Inv E g' wv' (σ k')) {v':Value}
  (hv:∀d,om.dst=some d->V g' wv' (ρf d) v')
  (AMb:∀(i:Nat) o ts d id,ops[i]?=some o->p.cls[i]?=some (.h ts)->o.dst=some d->KJ (ρf d)=some id->¬ D i->i≠m->g'.C5 id) :
  Core E L ops p K N ρ0 ρf σ ds g0 w0 (λi=>D i\/i=m) (a.put om.dst v') k' g' wv' where
 kK:=by
  rcases hk with ⟨_,rfl⟩|⟨h1,rfl⟩
  .exact h.kK
  .exact R.AHh m om k hm h1
 time:=λi o r ho hr=>by
  have ht:=h.time i o r ho hr;rcases hk with ⟨h1,rfl⟩|⟨h1,rfl⟩
  .grind
  .by_cases hi:i=m
   .grind
   .have:r≠k:=λe=>hi (R.ADa i m o om r ho hm hr (e ▸ h1))
    grind
 size:=by rw[Sd]; exact h.size
 defers:=by rw[put_defers]; exact h.defers
 ext:=ATr
 inv:=hinv
 tmps:=λt=>by
  by_cases ht:om.dst=some t
  .rw[Sb hm ht (.inr rfl),ht,JJ (by rw[h.size]; exact R.si m om t hm ht)]
   grind
  .rw[Ph ht]
   have:rho ops ρ0 ρf (λi=>D i\/i=m) t=rho ops ρ0 ρf D t:=by
    by_cases hx:∃(i:Nat) (o:Oper),ops[i]?=some o/\o.dst=some t/\D i
    all_goals grind[Sb,Rt]
   rw[this];exact hmono _ _ (h.tmps t)
 C5:=λi o ts d id ho hc hd hid hn=>AMb i o ts d id ho hc hd hid (λx=>hn (.inl x)) (λx=>hn (.inr x))
theorem Core.now (R:Uu E L cf ops p K N ρ0 ρf σ) {D:Nat->Prop} {a:Act} {k:Nat} {g:AI} {wv:World} (h:Core E L ops p K N ρ0 ρf σ ds g0 w0 D a k g wv) (hD:Down ops D) {m r:Nat} {om:Oper} (hm:ops[m]?=some om) (hn:¬ D m)
  (hr:∀e∈om.after,Region.binds .any e=true->D e.on) (Zk:Er p m=some r):r=k:=by
 have h1:k<=r:=by
  rcases FK r k with x|x
  .exact absurd ((h.time m om r hm Zk).2 x) hn
  omega
 rcases FK k r with x|x
 .obtain⟨i,o,ho,hi⟩:=R.AHg k (by have:=R.AHh m om r hm Zk; omega)
  have:=(h.time i o k ho hi).1 (R.K4 hD m om i hm hr (R.rk i m o om k r ho hm hi Zk x));omega
 omega
theorem Core.sr (R:Uu E L cf ops p K N ρ0 ρf σ) {D:Nat->Prop} {a:Act} {k:Nat} {g:AI} {wv:World} (h:Core E L ops p K N ρ0 ρf σ ds g0 w0 D a k g wv) (hD:Down ops D) {m:Nat} {om:Oper} {ts:List Nat} (hm:ops[m]?=some om) (hn:¬ D m)
  (hr:∀e∈om.after,Region.binds .any e=true->D e.on) (hc:p.cls[m]?=some (.q ts)\/p.cls[m]?=some (.h ts)):k∈ts:=by
 rcases Classical.em (k∈ts) with x|x
 .exact x
 .obtain⟨j,oj,r,sk,Zk,h1|h1⟩:=R.time m om ts hm hc k h.kK x
  .have:=(h.time j oj r sk Zk).1 (R.K4 hD m om j hm hr h1.1)
   omega
  .exact absurd (R.Lx hD sk ((h.time j oj r sk Zk).2 h1.2) h1.1) hn
theorem Mz.more {D:Nat->Prop} {m i:Nat} {om:Oper} (hm:ops[m]?=some om) (hnf:∀r j x,p.cls[m]?≠some (.fa r j x)) (h:Mz ops p D i):Mz ops p (λi=>D i\/i=m) i:=by
 intro i' o' r' j' x' ho hc hi hne;rcases hi with hi|rfl
 .exact .inl (h i' o' r' j' x' ho hc hi hne)
 grind
end
theorem KP {rd:Option Nat} {P:Program} {ops:Array Oper} {Q:Exit->Act->World->Prop} {m:Nat} {om:Oper} {K:Act->World->Prop} {a:Act} {w:World} (hm:ops[m]?=some om)
  (hw:Region.wanted om (yielded ops a.tmps)=true) (h:om.wpIn (FW rd) 0 P a w K Q):wpOpIn (FW rd) 0 P ops Q m K a w:=by grind[wpOpIn]
theorem Ru {rd:Option Nat} {P:Program} {ops:Array Oper} {Q:Exit->Act->World->Prop} {m:Nat} {om:Oper} {K:Act->World->Prop} {a:Act} {w:World} (hm:ops[m]?=some om)
  (hw:Region.wanted om (yielded ops a.tmps)=false) (h:K (a.put om.dst undef) w):wpOpIn (FW rd) 0 P ops Q m K a w:=by
 simp only[wpOpIn,hm,hw,DE,IZ];exact⟨λ_ _=>trivial,h⟩
theorem Mj {rd:Option Nat} {P:Program} {ops:Array Oper} {Q:Exit->Act->World->Prop} {m:Nat} {om:Oper} {K:Act->World->Prop} {a:Act} {w w':World} {v:Value} (hm:ops[m]?=some om)
  (hg:om.guard=none) (hr:(execOp a.eval om).run P w=.ok (.value v) w') (h:K (a.put om.dst v) w'):wpOpIn (FW rd) 0 P ops Q m K a w:=
 KP hm (by grind[Region.wanted]) (Jm hr h)
theorem Zl {E:Env} {L:A3} {cf:Cn} {ρ:Nat->AV} {s:AM} {o:Oper} {v:AV} (h:JA E L ρ s o=some v):NW E L cf ρ s o=some (v,s):=by grind[SX,OK,ni,Ca]
theorem F1 {o o1 o2:Oper} {kf:I8} (h:fused o o1 o2=some kf) :
  o.op=.call { callee:=.builtin .append,args:=#[kf.x,kf.y],argTypes:=#[kf.t,kf.t] }/\o.dst=some kf.d/\o1.op=.indexAddr kf.t (.tmp kf.d) kf.ix/\o1.dst=some kf.p /\
  o2.op=.store kf.te (.tmp kf.p) kf.v/\o2.dst=none/\kf.d≠kf.p/\(o.guard=none/\o1.guard=none/\o2.guard=none)/\kf.ix≠.tmp kf.d/\kf.v≠.tmp kf.d/\kf.v≠.tmp kf.p:=by
 unfold fused at h;split at h
 .rename_i args ts d t1 d1 ix p te p1 v ho hd ho1 hd1 ho2 Sg
  split at h
  .rename_i x y t t' ha ht
   split at h
   .rename_i hc
    obtain⟨rfl,rfl,rfl,rfl,hne,g1,g2,g3,h1,h2,h3,_⟩:=hc;simp at h;subst h;have Jb:args=#[x,y]:=by rw[<-G6 (xs:=args),ha]
    have ht':ts=#[t',t']:=by rw[<-G6 (xs:=ts),ht]
    subst Jb ht';have hn:∀(z:Operand) (q:Nat),Lb z q=false->z≠.tmp q:=λz q hz e=>by simp_all[Lb]
    simp_all
   grind
  grind
 grind
theorem Qk {o o1 o2:Oper} {kf:I8} (h:fused o o1 o2=some kf):∀z,z=kf.x\/z=kf.y\/z=kf.ix\/z=kf.v->z≠.tmp kf.d/\z≠.tmp kf.p:=by
 unfold fused at h;split at h
 .split at h
  .split at h
   .rename_i hc
    obtain⟨rfl,rfl,rfl,rfl,hne,g1,g2,g3,h1,h2,h3,h4,h5,h6,h7,h8⟩:=hc;simp at h;subst h;have hn:∀(z:Operand) (q:Nat),Lb z q=false->z≠.tmp q:=λz q hz e=>by simp_all[Lb]
    grind
   grind
  grind
 grind
theorem EF {a:Act} {d:Option Tmp} {v:Value} {z:Operand} (h:∀t,z=.tmp t->d≠some t):(a.put d v).eval z=a.eval z:=by
 cases z with
 | tmp t=>exact Ph (h t rfl)
 | const c=>rfl
 | global g=>rfl
 | func f=>rfl
section
variable {rd:Option Nat} {E:Env} {L:A3} {cf:Cn} {ops:Array Oper} {p:BS} {K N:Nat} {ρ0 ρf:Nat->AV} {σ:Nat->AM} {ds:List Deferred} {g0:AI} {w0:World} {Q:Exit->Act->World->Prop}
theorem J0 {m r:Nat} (h:p.cls[m]?=some (.w r)):Er p m=some r:=by grind[Er,Jj]
theorem Jn {m r j x:Nat} (h:p.cls[m]?=some (.fa r j x)):Er p m=some r:=by grind[Er,Jj]
theorem Pj {m:Nat} {ts:List Nat} (h:p.cls[m]?=some (.q ts)):Er p m=none:=by grind[Er,Jj]
theorem su {m:Nat} {ts:List Nat} (h:p.cls[m]?=some (.h ts)):Er p m=none:=by grind[Er,Jj]
theorem jd {m:Nat} (h:p.cls[m]?=some .fj):Er p m=none:=by grind[Er,Jj]
theorem je {m:Nat} (h:p.cls[m]?=some .fx):Er p m=none:=by grind[Er,Jj]
theorem Uu.AHi (R:Uu E L cf ops p K N ρ0 ρf σ) {D:Nat->Prop} (hD:Down ops D) {m r j x:Nat} {om:Oper} (hm:ops[m]?=some om) (hc:p.cls[m]?=some (.fa r j x)) (hr:∀e∈om.after,Region.binds .any e=true->D e.on)
  {o1 o2:Oper} {kf:I8} (h1:ops[j]?=some o1) (h2:ops[x]?=some o2) (hf:fused om o1 o2=some kf) (w1:HO p.GI m=[]) (w2:HO p.GI j=[]) :
  ∀z,z=kf.x\/z=kf.y\/z=kf.ix\/z=kf.v->AX ρf z=AX (rho ops ρ0 ρf D) z:=by
 obtain⟨f1,f2,f3,f4,f5,f6,f7,f8,f9,f10,f11⟩:=F1 hf;intro z hz;refine Jk λt ht=>?_
 subst ht
 by_cases hw:∃(i:Nat) (o:Oper),ops[i]?=some o/\o.dst=some t
 .obtain⟨i,oi,Rv,n4⟩:=hw
  have hpre:i∈Dl p m:=by
   by_cases hxy:Operand.tmp t=kf.x\/Operand.tmp t=kf.y
   .have:t∈F0 om:=DL.2 (by grind[Op.operands,Call.operands])
    rcases R.read m i om oi t hm Rv n4 (Ic _ this) with ⟨q1,_⟩|⟨_,q2⟩
    all_goals grind[has]
   .have hiv:Operand.tmp t=kf.ix\/Operand.tmp t=kf.v:=by grind
    by_cases e1:i=m
    .grind
    by_cases e2:i=j
    .subst e2
     rw[h1] at Rv; simp at Rv; subst Rv;rw[f4] at n4; simp at n4; subst n4;rcases hiv with e|e
     .have:kf.p∈F0 o1:=DL.2 (by grind[Op.operands])
      rcases R.read i i o1 o1 kf.p h1 h1 f4 (Ic _ this) with ⟨q1,_⟩|⟨_,q2⟩
      .grind[has]
      .exact absurd (R.sj i o1 i h1 q2) (N7 _)
     grind
    by_cases e3:i=x
    .grind
    refine(R.win m om r j x hm hc i oi Rv e1 e2 e3).2 t n4 ?_
    grind[Dq,DL,Op.operands]
  exact(Sb Rv n4 (R.K4 hD m om i hm hr hpre)).symm
 .exact(R.Sc λi o ho hd=>hw ⟨i,o,ho,hd⟩).symm
theorem Zm (R:Uu E L cf ops p K N ρ0 ρf σ) (Rs:HX E L cf) {D:Nat->Prop} (hD:Down ops D) {a:Act} {k:Nat} {g:AI} {w:World} (h:Core E L ops p K N ρ0 ρf σ ds g0 w0 D a k g w) (hsh:∀i,Mz ops p D i)
  (hnp:∀(i:Nat) o ts d id,ops[i]?=some o->p.cls[i]?=some (.h ts)->o.dst=some d->KJ (ρf d)=some id->¬ g0.C5 id)
  {m:Nat} {om:Oper} (hm:ops[m]?=some om) (hn:¬ D m) (hr:∀e∈om.after,Region.binds .any e=true->D e.on) :
  wpOpIn (FW rd) 0 E.P ops Q m (J E L ops p K N ρ0 ρf σ ds g0 w0 (λi=>D i\/i=m)) a w:=by
 have hag:=R.agree hD hm hn hr;obtain⟨c,hc⟩:=R.cls m om hm;have sw:(∀r j x,p.cls[m]?≠some (.fa r j x))->∀i,Mz ops p (λi=>D i\/i=m) i:=λhnf i=>Mz.more hm hnf (hsh i)
 have Ef:∀(g':AI),(∀id,g.C5 id->g'.C5 id)->∀(i:Nat) o ts d id,ops[i]?=some o->p.cls[i]?=some (.h ts)->o.dst=some d->KJ (ρf d)=some id->¬ D i->i≠m->g'.C5 id:=
  λg' hg i o ts d id ho HP hd hid hnD _=>hg id (h.C5 i o ts d id ho HP hd hid hnD)
 cases c with
 | w r=>
  have hk:=h.now R hD hm hn hr (J0 hc);subst hk;obtain⟨v,hact,hv⟩:=R.wF m om r hm hc;rw[<-Nd hag] at hact;unfold NY at hact;have hs:=sw (λ_ _ _ e=>by grind);split at hact
  .rename_i hg
   refine KP hm (DD h.tmps hg) (Ng Rs h.inv h.tmps hact λv' w' g' hV hE hI=>?_);exact⟨r+1,g',w',h.push R hm (.inr ⟨J0 hc,rfl⟩) (h.ext.trans hE) (λ_ _ q=>q.mono hE) hI (λd hd=>by grind) (Ef g' hE.C5),.inl ⟨rfl,hs⟩⟩
  .rename_i hg
   simp only[Aw,A4] at hact;obtain⟨rfl,hst⟩:=hact;refine Ru hm (DD h.tmps hg) ?_;exact⟨r+1,g,w,h.push R hm (.inr ⟨J0 hc,rfl⟩) h.ext (λ_ _ q=>q) (hst ▸ h.inv) (λd hd=>by grind[V.undef]) (Ef g λ_ q=>q),.inl ⟨rfl,hs⟩⟩
  grind
 | q ts=>
  obtain⟨v,hq,hv⟩:=R.qF m om ts k hm hc (h.sr R hD hm hn hr (.inl hc));rw[<-Im hag] at hq;unfold E2 at hq;have hs:=sw (λ_ _ _ e=>by grind);split at hq
  .rename_i hg
   refine KP hm (DD h.tmps hg) (Ng Rs h.inv h.tmps (Zl hq) λv' w' g' hV hE hI=>?_);exact⟨k,g',w',h.push R hm (.inl ⟨Pj hc,rfl⟩) (h.ext.trans hE) (λ_ _ q=>q.mono hE) hI (λd hd=>by grind) (Ef g' hE.C5),.inl ⟨rfl,hs⟩⟩
  .rename_i hg
   simp only[Aw] at hq;subst hq;refine Ru hm (DD h.tmps hg) ?_;exact⟨k,g,w,h.push R hm (.inl ⟨Pj hc,rfl⟩) h.ext (λ_ _ q=>q) h.inv (λd hd=>by grind[V.undef]) (Ef g λ_ q=>q),.inl ⟨rfl,hs⟩⟩
  grind
 | h ts=>
  obtain⟨hg,d,cs,mk,id,hd,hh,hmk,qT⟩:=R.hF m om ts hm hc;have hcs:=qT k (h.sr R hD hm hn hr (.inr hc));rw[<-OP (λt ht=>hag t (Ic _ ht))] at hh;obtain⟨vs,e,mv,hrun,hvl,hV,hid⟩:=X1 h.tmps hh;have AMd:g.C5 id:=h.C5 m om ts d id hm hc hd (by grind) hn;obtain⟨p1,p2,p3⟩:=h.inv.Dh id AMd;obtain⟨e2,i2⟩:=h.inv.fill (L:=L) (id:=id) (q:=λi=>g.C5 i/\i≠id) (cs:=cs) (vs:=vs) (λ_=>Iff.rfl) e p1 p2 p3 (λb hb=>(h.inv.Lc id b hb).2.2 AMd) hcs hvl.full.1 hvl.full.2;have e1:Ext L g0 w0 (g.Bv λi=>g.C5 i/\i≠id) w:=h.ext.Bv λi hi=>⟨h.ext.C5 i hi,λq=>hnp m om ts d id hm hc hd (by grind) (q ▸ hi)⟩
  refine Mj hm hg hrun ⟨k,_,_,h.push R hm (.inl ⟨su hc,rfl⟩) (e1.trans e2) (λ_ _ q=>q.Bv.mono e2) i2 (λd' hd'=>?_) ?_,.inl ⟨rfl,sw (λ_ _ _ e=>by grind)⟩⟩
  .rw[hd] at hd'; simp at hd'; subst hd'
   rw[hmk];exact hV _ _ id w.heap.size (by simp[AI.Ff]) (Bh (by rw[B5]; exact if_pos rfl))
  .intro i o ts' d' id' ho HP n4 AMe hnD hne
   refine⟨h.C5 i o ts' d' id' ho HP n4 AMe hnD,λq=>hne ?_⟩;subst q;exact R.AMa i m o om ts' ts d' d id' ho hm HP hc n4 hd AMe (by grind)
 | fa r j x=>
  have hk:=h.now R hD hm hn hr (Jn hc);subst hk;obtain⟨o1,o2,kf,h1,h2,c1,c2,hf,w1,w2,w3,p1,p2,p3,v,OS,hvd,hvp⟩:=R.sg m om r j x hm hc;have ABU:=R.AHi hD hm hc hr h1 h2 hf w1 w2;obtain⟨f1,f2,f3,f4,f5,f6,f7,f8,f9,f10,f11⟩:=F1 hf;have hVx:=Ae h.tmps kf.x;have hVy:=Ae h.tmps kf.y;have hVi:=Ae h.tmps kf.ix;have hVv:=Ae h.tmps kf.v;rw[<-ABU _ (.inl rfl)] at hVx;rw[<-ABU _ (.inr (.inl rfl))] at hVy;rw[<-ABU _ (.inr (.inr (.inl rfl)))] at hVi;rw[<-ABU _ (.inr (.inr (.inr rfl)))] at hVv;cases sR:I9 E L ρf (σ r) kf with
  | some res=>
   have OS:I9 E L ρf (σ r) kf=some (v,σ (r+1)):=by grind[KI]
   unfold I9 at OS;split at OS
   .rename_i elem hu
    split at OS
    .rename_i Xo
     split at OS
     .rename_i ti rows z n row eB hrows hz qW hrow
      split at OS
      .rename_i hcnd
       obtain⟨q1,q2,q3,q4,q5,q6,q7⟩:=hcnd;have hvl:=EO hVv q4;obtain⟨t1,t2⟩:=Gm hvl hrow;obtain⟨b,cap,vz,e,fz,w1',wv',g',a1,a2,a3,a4,a5,a6,a7,a8⟩:=Lu (T:=om.type) h.inv hu eB q6 q7 hVx hrows hVy hz q2 q5 (us:=(a.eval kf.v).cells.toList) (by omega) q3 t2 OS;obtain⟨kk,SQ⟩:=E5 hVi qW;have hrun:(execOp a.eval om).run E.P w=.ok (.value (.slice (some ⟨b,0,none⟩) (rows.length+1) cap)) w1':=by simp[*,execOp,resolve,invoke,builtin]
       have hnj:¬ (D j\/j=m):=λq=>q.elim (λq=>hn (R.Lx hD h1 q p1)) (λq=>by grind)
       have hnx:¬ (D x\/x=m):=λq=>q.elim (λq=>hn (R.Lx hD h2 q p3)) (λq=>by grind)
       refine Mj hm f8.1 hrun ⟨r+1,g',wv',h.push R hm (.inr ⟨Jn hc,rfl⟩) (h.ext.trans a3) (λ_ _ q=>q.mono a3) a4 (λd hd=>?_) (Ef g' a3.C5),.inr ?_⟩
       .grind
       .refine⟨m,om,r,j,x,o1,o2,kf,hm,hc,h1,h2,hf,.inr rfl,hnx,?_,b,cap,rows.length,vz,e,fz,a.eval kf.v,kk,elem,ti,hu,eB,Xo.2,?_,?_,?_,?_,?_,a5,a6,?_,.inl a8,λq=>absurd q hnj⟩
        .intro i' o' r' j' x' ho' HM hi' hne
         rcases hi' with hi' | hi'
         .exact .inl (hsh m i' o' r' j' x' ho' HM hi' hne)
         omega
        .rw[f2]; exact JJ (by rw[h.size]; exact R.si m om kf.d hm f2)
        .grind[EF]
        all_goals grind[EF,VL.one]
      grind
     grind
    grind
   grind
  | none=>
   unfold KI at OS;rw[sR] at OS;simp only at OS;unfold VT at OS;split at OS
   .rename_i elem hu
    split at OS
    .rename_i Xo
     split at OS
     .rename_i ti id off len sz n eB hxe qW
      split at OS
      .rename_i zs old hzs hold
       split at OS
       .rename_i hcnd
        obtain⟨q1,q2,q3,q4,q5,q6,q7,rfl,rfl,q8,q9,q10,q11,q12⟩:=hcnd;simp only[Aw,A4] at OS;obtain⟨hfv,hfs⟩:=OS;have hvl:=EO hVv q4;rw[hxe] at hVx;obtain⟨b,cap,vz,e,fz,w1',wv',g',a1,a2,a3,a4,a5,a6,a7,a8⟩:=eX (L:=L) (T:=om.type) h.inv hu eB q6 q7 hVx hVy hzs q2 q5 hold q8 q9 q10 q11 q12 (us:=(a.eval kf.v).cells.toList) (by rw[<-hvl.len]; omega) hvl;rw[hfs] at a4;obtain⟨kk,SQ⟩:=E5 hVi qW;have hrun:(execOp a.eval om).run E.P w=.ok (.value (.slice (some ⟨b,0,none⟩) (len+1) cap)) w1':=by simp[*,execOp,resolve,invoke,builtin]
        have hnj:¬ (D j\/j=m):=λq=>q.elim (λq=>hn (R.Lx hD h1 q p1)) (λq=>by grind)
        have hnx:¬ (D x\/x=m):=λq=>q.elim (λq=>hn (R.Lx hD h2 q p3)) (λq=>by grind)
        refine Mj hm f8.1 hrun ⟨r+1,g',wv',h.push R hm (.inr ⟨Jn hc,rfl⟩) (h.ext.trans a3) (λ_ _ q=>q.mono a3) a4 (λd hd=>?_) (Ef g' a3.C5),.inr ?_⟩
        .grind
        .refine⟨m,om,r,j,x,o1,o2,kf,hm,hc,h1,h2,hf,.inr rfl,hnx,?_,b,cap,len,vz,e,fz,a.eval kf.v,kk,elem,ti,hu,eB,Xo.2,?_,?_,?_,?_,?_,a5,a6,?_,.inr ⟨_,_,_,_,by rw[hvd]; exact hfv.symm,a8,by grind[RH]⟩,λq=>absurd q hnj⟩
         .intro i' o' r' j' x' ho' HM hi' hne
          rcases hi' with hi' | hi'
          .exact .inl (hsh m i' o' r' j' x' ho' HM hi' hne)
          omega
         .rw[f2]; exact JJ (by rw[h.size]; exact R.si m om kf.d hm f2)
         .grind[EF]
         .grind[EF]
         .rw[<-Hl,<-hvl.len]; omega
         .grind[VL.one]
         .have:=a7; rw[<-hvl.len,q3] at this; omega
       grind
      grind
     grind
    grind
   grind
 | fj=>
  obtain⟨i,o,r,x,ho,HP⟩:=R.AMY m om hm hc;obtain⟨o1,o2,kf,h1,h2,c1,c2,hf,w1,w2,w3,p1,p2,p3,_⟩:=R.sg i o r m x ho HP;have n7:=R.K4 hD m om i hm hr p1;have hDx:=hsh m i o r m x ho HP n7 (λe=>by grind);exact absurd (R.Lx hD h2 hDx p2) hn
 | fx=>
  obtain⟨i,o,r,j,ho,HP⟩:=R.AMZ m om hm hc;obtain⟨o1,o2,kf,h1,h2,c1,c2,hf,w1,w2,w3,p1,p2,p3,_⟩:=R.sg i o r j m ho HP;have n7:=R.K4 hD m om i hm hr p3;exact absurd (hsh m i o r j m ho HP n7 (λe=>by grind)) hn
end
end Go.Tel
