/-
  A row that is appended as zero and then written: the world meanwhile.
-/
import Derived.Test.YtpgfpakdnijngaaGreatDoorEvE
set_option linter.all false
namespace Go.Tel
theorem rP (us:List Value):∀(vs vs':List Value) (k:Nat),vs.length=vs'.length->(∀q,(q<k\/k+us.length<=q)->vs[q]?=vs'[q]?)->CC vs k us=CC vs' k us:=by
 induction us with
 | nil=>intro vs vs' k hl h; simp only[CC]; exact G3 λq=>h q (by grind)
 | cons u us ih=>
  grind[CC]
theorem VJ (us zs:List Value) (h:zs.length=us.length) (vs:List Value) (k:Nat):CC (CC vs k zs) k us=CC vs k us:=
 rP us _ _ k (Bd _ _ _) λ_ hq=>FI _ _ _ _ (by omega)
theorem rQ (us:List Value):∀(os r:List Value),r.length=us.length->∀rest,CC (os++r++rest) os.length us=os++us++rest:=by
 intro os r hr rest;apply G3;intro q;rcases FR q os.length with a|a
 .grind[FI]
 .rcases FR q (os.length+us.length) with b|b
  .obtain⟨j,rfl⟩:∃j,q=os.length+j:=⟨q-os.length,by omega⟩
   simp_all[Gl,E4,Ci]
  grind[FI]
theorem SA {os rest:List Value} (zs us:List Value) (h:zs.length=us.length):CC (os++zs++rest) os.length us=os++us++rest:=rQ us os zs h rest
theorem GR {w:World} {vs us:List Value} {e:TypeId}:BH (CW w vs e) w.heap.size us e=CW w us e:=by
 refine I3 ?_ rfl rfl rfl rfl;apply RI
 grind[BX,CW]
theorem VP.one {I:Nat->Nat->Prop} {w:World} {p:PV} {u:Value} (g:AH) (hg:g.I=I) (h:VP I w p u) (ho:A9 (.pv p)=true):u.oneCell'=true:=by
 subst hg;exact JH (.pv h) ho
theorem Flat.one {I:Nat->Nat->Prop} {w:World} {z:List PV} {us:List Value} (g:AH) (hg:g.I=I) (h:Flat I w [z] z.length us) (ho:(z.map AV.pv).all A9=true):∀u∈us,u.oneCell'=true:=by
 intro u hu;obtain⟨j,hj,rfl⟩:=MI.1 hu;have hlen:=h.len;simp at hlen;obtain⟨u',h1,h2⟩:=h.at_ 0 z j z[j] rfl (by simp)
 grind[VP.one]
theorem Lh {E:Env} {L:A8} {g:AH} {w:World} {s s':AM} (hI:Inv E g w s) {t elem T:TypeId} {i:TypeInfo} {x y v:AV} {xv yv:Value} {rows:List (List PV)} {z row:List PV} {us:List Value}
  (ht:E.P.underlying t=some (.slice elem)) (hi:E.P.info? elem=some i) (hk:i.size≠0) (hze:(zeroOf E.P elem).map List.length=some i.size)
  (hx:V g w x xv) (jV:rowsOf x=some rows) (hy:V g w y yv) (hyr:rowsOf y=some [z]) (hzl:z.length=i.size) (hzo:(z.map AV.pv).all A9=true)
  (hus:us.length=i.size) (hrow:row.length=i.size) (hvp:∀(j:Nat) p,row[j]?=some p->∃u,us[j]?=some u/\VP g.I w p u)
  (h:KG L s elem i x row=some (v,s')) :
  ∃b cap vz e fz w1 wv g',
   (Builtin.append_ #[t,t] T #[xv,yv]).run E.P w=.ok (.slice (some ⟨b,0,none⟩) (rows.length+1) cap) w1 /\
   V g' wv v (.slice (some ⟨b,0,none⟩) (rows.length+1) cap)/\Ext L g w g' wv/\Inv E g' wv s' /\
   wv.heap[b]?=some (.cells ⟨CC vz (rows.length*i.size) us⟩ e fz)/\w1=BH wv b vz e fz/\(rows.length*i.size+us.length<=vz.length/\fz.2<=rows.length*i.size) /\
   (∃k l,g'.tok k=some l/\l.b=b):=by
 obtain⟨AOB,Gg,yb,yo,ysz,yf,rfl,AaF,AVd⟩:=EK hy hyr;obtain⟨zs,hzf,_,AEJ⟩:=AVd.VF (k:=i.size) hk (by grind) Gg;have AIq:zs.length=i.size:=by have:=hzf.len; grind
 have rR:∀u∈zs,u.oneCell'=true:=Flat.one g rfl (by rw[hzl]; omega) hzo;obtain⟨zz,hzz⟩:∃zz,zeroOf E.P elem=some zz:=by grind[zeroOf]
 obtain⟨i',zv,hi',nR,_,AIr⟩:=Dv (g:=g) (w:=w) hzz;have:i'=i:=by grind
 subst this;have hse:D3 E.P elem=some i'.size:=by grind[D3]
 have hzs:zv.cells.size=i'.size:=by rw[<-Ho,<-AIr.len]; grind
 have hn:(Builtin.lenOf (.slice AOB [z].length Gg)).run E.P w=.ok 1 w:=ZP _ _ _;have hd:∀k,TypeDesc.slice elem≠.int k:=λk e=>by grind
 have hfn:Flat g.I w [row] i'.size us:=by
  have:=Hy (k:=i'.size) (n:=1) (ps:=row) (us:=us) (I:=g.I) (w:=w) (by omega) (by omega) hvp
  grind[CB]
 unfold KG at h;split at h
 .rename_i EC
  simp[rowsOf] at jV; subst jV;split at h
  .rename_i hc
   obtain⟨Qz,Lf,hall⟩:=hc;have hl:=K0 hall;simp only[BG,BK] at h;obtain⟨rfl,rfl⟩:=h;cases hx with
   | @AB _ base b o sz f hr=>
    obtain⟨os,hfo,_,R6⟩:=hr.VF hk hl EC.length;obtain⟨Gy,rest,NC,Qy,hrun⟩:=run_append_grow (base:=base) (sCap:=EC.length) T [] ht hi ht hd hn (AEJ E.P (BU w) rfl) (R6 E.P (BU w) rfl) nR (by omega) Qz Lf;obtain⟨e1,i1⟩:=hI.drew (L:=L);have rM:=hfo.append hfn
    have dx:(os++us++rest).length=Gy*i'.size:=by
     simp only[Bo,hfo.len,hus,Qy,hzs];rw[show EC.length*i'.size+i'.size=(EC.length+1)*i'.size by grind,<-EI];rw[show EC.length+1+(Gy-(EC.length+1))=Gy by omega]
    obtain⟨e3,i3⟩:=i1.jS (L:=L) (t:=s.ts.length) (n:=EC.length+1) (e:=elem) dx NC hk hse (.inl ⟨rfl,rfl⟩);have hrl:(EC++[row]).length=EC.length+1:=by simp
    refine⟨w.heap.size,Gy,os++zs++rest,elem,(0,0),_,CW (BU w) (os++us++rest) elem,_,hrun,?_,e1.trans e3,i3,?_,?_,?_,s.ts.length,⟨(BU w).heap.size,Gy,i'.size,EC.length+1,elem⟩,by simp[AH.GL],rfl⟩
    .have hV:=Gm (g:=g.GL s.ts.length ⟨(BU w).heap.size,Gy,i'.size,EC.length+1,elem⟩) (w:=CW (BU w) (os++us++rest) elem) (t:=s.ts.length) (b:=(BU w).heap.size) (cap:=Gy) (e:=elem)
      (by simp[AH.GL]) (rM.mono (e1.trans e3).mono (e1.trans e3).cell) hrl NC (λo ho=>.inr ⟨rfl,ho⟩) (λq u hq=>by
       rw[Bj (by rw[CD]; exact if_pos rfl),Ci (C3 hq)]; omega)
     rw[hrl] at hV;exact hV
    .rw[CD,if_pos (show w.heap.size=(BU w).heap.size from rfl),<-hfo.len,SA zs us (by omega)]
    .grind[GR,BU]
    .exact⟨by simp[hfo.len,AIq,hus],AI _⟩
  grind
 .rename_i k EC
  simp[rowsOf] at jV; subst jV;split at h
  .rename_i hc
   obtain⟨Qz,Lf,hts,EU,hall⟩:=hc;have hl:=K0 hall;simp only[BG,BK] at h;obtain⟨rfl,rfl⟩:=h;have hrl:(EC++[row]).length=EC.length+1:=by simp
   cases hx with
   | @own _ _ base b o sz cap f l hr hcap VG ND hf=>
    obtain⟨l',dR,PE,AVW⟩:=hI.Ge k _ _ hts;have:l'=l:=by grind
    subst this;obtain⟨rfl,rfl,rfl,rfl,rfl⟩:=hf PE.symm;obtain⟨os,hfo,hco,R6⟩:=hr.VF hk hl l'.cap;have rM:=hfo.append hfn;obtain⟨vs,fz,hh,AVY,hnc,hsz,hfz,hsl⟩:=hI.tok k l' VG;have jT:l'.sz=i'.size:=by grind
    by_cases hroom:EC.length+1<=l'.cap
    .have hbd:l'.n*l'.sz+i'.size<=vs.length:=by
      have:=B9 i'.size hroom
      grind
     have hst:=FH (P:=E.P) (b:=l'.b) (o:=l'.n*l'.sz) (e:=l'.e) hfz zs 0 w vs rR hh (by omega);obtain⟨e3,i3⟩:=hI.AEH (L:=L) (n:=EC.length+1) (us:=us) VG hh (by omega) hroom EU;have i3':Inv E (g.GL k { l' with n:=EC.length+1 }) (BH w l'.b (CC vs (l'.n*l'.sz) us) l'.e fz) { s with ts:=s.ts.set k (EC.length+1,elem) }:=by grind
     refine⟨l'.b,l'.cap,CC vs (l'.n*l'.sz) zs,l'.e,fz,BH w l'.b (CC vs (l'.n*l'.sz) zs) l'.e fz,BH w l'.b (CC vs (l'.n*l'.sz) us) l'.e fz,_,?_,?_,e3,i3',?_,?_,?_,k,{ l' with n:=EC.length+1 },by simp[AH.GL],rfl⟩
     .simp_all[run_append_room,DI]
     .have hV:=Gm (g:=g.GL k { l' with n:=EC.length+1 }) (w:=BH w l'.b (CC vs (l'.n*l'.sz) us) l'.e fz) (t:=k) (b:=l'.b) (cap:=l'.cap) (sz:=l'.sz) (e:=l'.e)
       (by simp[AH.GL]) (Flat.AOA jT.symm (rM.mono e3.mono e3.cell)) hrl hroom (λo ho=>.inr ⟨rfl,ho⟩) (λq u hq=>by
        rw[Bj (by rw[BX,if_pos rfl,if_pos (hI.HC VG)])];rcases FR q os.length with x|x
        .rw[Ci x] at hq
         have:=(hco q u hq).2;rw[Bj hh,CQ] at this;rw[FI us vs _ _ (.inl (by rw[PE,jT,<-hfo.len]; exact x))];omega
        .rw[E4 x] at hq
         have:=Gl us vs (l'.n*l'.sz) _ u hq (by omega);rw[PE,jT,<-hfo.len,show os.length+(q-os.length)=q by omega] at this;rw[PE,jT,<-hfo.len];omega)
      grind
     .grind[BX,VJ]
     .exact EG.symm
     grind[Bd]
    .obtain⟨Gy,rest,NC,Qy,hrun⟩:=run_append_grow (base:=some ⟨l'.b,0,none⟩) (sCap:=l'.cap) T [] ht hi ht hd hn (AEJ E.P (BU w) rfl) (R6 E.P (BU w) rfl) nR (by omega) Qz Lf
     obtain⟨e1,i1⟩:=hI.drew (L:=L)
     have dx:(os++us++rest).length=Gy*i'.size:=by
      simp only[Bo,hfo.len,hus,Qy,hzs];rw[show EC.length*i'.size+i'.size=(EC.length+1)*i'.size by grind,<-EI];rw[show EC.length+1+(Gy-(EC.length+1))=Gy by omega]
     obtain⟨e3,i3⟩:=i1.jS (L:=L) (t:=k) (n:=EC.length+1) (e:=elem) dx NC hk hse (.inr ⟨l',VG,by omega,EU,rfl⟩);refine⟨w.heap.size,Gy,os++zs++rest,elem,(0,0),_,CW (BU w) (os++us++rest) elem,_,hrun,?_,e1.trans e3,i3,?_,?_,?_,k,⟨(BU w).heap.size,Gy,i'.size,EC.length+1,elem⟩,by simp[AH.GL],rfl⟩
     .have hV:=Gm (g:=g.GL k ⟨(BU w).heap.size,Gy,i'.size,EC.length+1,elem⟩) (w:=CW (BU w) (os++us++rest) elem) (t:=k) (b:=(BU w).heap.size) (cap:=Gy) (e:=elem)
       (by simp[AH.GL]) (rM.mono (e1.trans e3).mono (e1.trans e3).cell) hrl NC (λo ho=>.inr ⟨rfl,ho⟩) (λq u hq=>by
        rw[Bj (by rw[CD]; exact if_pos rfl),Ci (C3 hq)]; omega)
      rw[hrl] at hV;exact hV
     .rw[CD,if_pos (show w.heap.size=(BU w).heap.size from rfl),<-hfo.len,SA zs us (by omega)]
     .grind[GR,BU]
     .exact⟨by simp[hfo.len,AIq,hus],AI _⟩
  grind
 grind
theorem eC {E:Env} {L:A8} {g:AH} {w:World} {s:AM} (hI:Inv E g w s) {t elem T:TypeId} {i:TypeInfo} {y:AV} {xv yv:Value} {id len:Nat} {old zs cells:List AV} {us:List Value}
  (ht:E.P.underlying t=some (.slice elem)) (hi:E.P.info? elem=some i) (hk:i.size≠0) (hze:(zeroOf E.P elem).map List.length=some i.size)
  (hx:V g w (.ref id 0 len i.size) xv) (hy:V g w y yv) (hzs:Cx s i.size y=some zs) (hzl:zs.length=i.size) (hzo:zs.all A9=true)
  (hold:s.bs[id]?=some old) (hlo:len*i.size<=old.length) (hal:Tel.alive s id=true) (Qz:(len+1)*i.bytes<=2 ^ 45) (Lf:len+1<=2 ^ 45) (hro:L.ro<=id)
  (hus:us.length=i.size) (hvl:VL g w cells us) :
  ∃b cap vz e fz w1 wv g',
   (Builtin.append_ #[t,t] T #[xv,yv]).run E.P w=.ok (.slice (some ⟨b,0,none⟩) (len+1) cap) w1 /\
   V g' wv (.ref s.bs.length 0 (len+1) i.size) (.slice (some ⟨b,0,none⟩) (len+1) cap)/\Ext L g w g' wv/\Inv E g' wv { s with bs:=s.bs.set id []++[old.take (len*i.size)++cells] } /\
   wv.heap[b]?=some (.cells ⟨CC vz (len*i.size) us⟩ e fz)/\w1=BH wv b vz e fz/\(len*i.size+us.length<=vz.length/\fz.2<=len*i.size) /\
   g'.blk s.bs.length=some b:=by
 obtain⟨zz,hzz⟩:∃zz,zeroOf E.P elem=some zz:=by grind[zeroOf]
 obtain⟨i',zv,hi',nR,_,AIr⟩:=Dv (g:=g) (w:=w) hzz;have:i'=i:=by grind
 subst this;have AVe:zv.cells.size=i'.size:=by rw[<-Ho,<-AIr.len]; grind
 obtain⟨n,zsv,hn,Be,hfc,AEK⟩:=JI hI hy hk hzs
 have hn1:n=1:=by
  rw[hzl] at Be;exact(Nat.eq_of_mul_eq_mul_right (Nat.pos_of_ne_zero hk) (by omega)).symm
 subst hn1;have rR:∀u∈zsv,u.oneCell'=true:=AEK.one hzo;have AIq:zsv.length=i'.size:=by rw[<-AEK.len]; omega
 have hcells:cells.length=i'.size:=by rw[hvl.len]; omega
 have hd:∀k,TypeDesc.slice elem≠.int k:=λk e=>by grind
 cases hx with
 | Im hd=>exact absurd hd (hI.alive hal)
 | @ref _ _ _ _ b cap n' e Hz hcap hs hn'=>
  obtain⟨cs',vs,e',k1,k2,kle,k3⟩:=hI.blk id b Hz;rw[hold] at k1; simp only[BG] at k1; subst k1;have hsh:vs.length=n':=by rw[Bl k2] at hs; grind
  have k4:VL g w (old.take (len*i'.size)) (vs.take (len*i'.size)):=by
   have:=k3.take (len*i'.size)
   grind
  have ZC:(old.take (len*i'.size)).length=len*i'.size:=by grind
  by_cases hroom:len+1<=cap
  .have hbd:len*i'.size+us.length<=vs.length:=by
    have:=B9 i'.size hroom
    grind
   have hst:=Ff (P:=E.P) (b:=b) (o:=len*i'.size) (e:=e') zsv 0 w vs rR k2 (by omega)
   obtain⟨e1,e2⟩:=hI.rL (L:=L) (cs':=old.take (len*i'.size)++cells) (vs':=CC vs (len*i'.size) us) Hz k2 (Bd _ _ _) hro
    (by grind[Bd])
    (by rw[Bo,ZC,hvl.len,KO us vs _ hbd]; exact k4.append hvl)
   refine⟨b,cap,CC vs (len*i'.size) zsv,e',(0,0),BH w b (CC vs (len*i'.size) zsv) e',BH w b (CC vs (len*i'.size) us) e',_,?_,V.ref (b:=b) (e:=e') (n:=n') ?_ hroom ?_ hn',e1,e2,?_,?_,?_,?_⟩
   .simp[*,run_append_room,DI]
   .simp[AH.Fg]
   .grind[Bl,BX,Bd]
   .grind[BX,VJ]
   .exact EG.symm
   all_goals grind[Bd,AH.Fg]
  .have hvt:(vs.take (len*i'.size)).length=len*i'.size:=by grind
   have hos:(Builtin.firstCells i'.size len (.slice (some ⟨b,0,none⟩) len cap)).run E.P (BU w)=.ok (List.toArray (vs.take (len*i'.size))) (BU w):=by grind[Builtin.firstCells,ET,BU,Bj]
   obtain⟨Gy,rest,NC,Qy,hrun⟩:=run_append_grow (base:=some ⟨b,0,none⟩) (sCap:=cap) T [] ht hi ht hd hn (hfc (BU w) rfl) hos nR (by omega) Qz Lf;obtain⟨e1,i1⟩:=hI.drew (L:=L);obtain⟨e2,i2⟩:=i1.kill (L:=L) Hz hro;have hpre:(old.take (len*i'.size)++cells).length<=(vs.take (len*i'.size)++us++rest).length:=by grind
   have VG:(vs.take (len*i'.size)++us++rest).take (old.take (len*i'.size)++cells).length=vs.take (len*i'.size)++us:=by
    rw[RK (by grind)]
   obtain⟨e3,i3⟩:=i2.Rz (L:=L) (cs:=old.take (len*i'.size)++cells) (vs:=vs.take (len*i'.size)++us++rest) elem hpre (by rw[VG]; exact((k4.append hvl).mono e1).mono e2);have hl:({ s with bs:=s.bs.set id [] }:AM).bs.length=s.bs.length:=by simp
   refine⟨w.heap.size,Gy,vs.take (len*i'.size)++zsv++rest,elem,(0,0),_,CW (BU w) (vs.take (len*i'.size)++us++rest) elem,_,hrun,?_,(e1.trans e2).trans e3,i3,?_,?_,?_,?_⟩
   .refine V.ref (b:=w.heap.size) (e:=elem) (n:=(vs.take (len*i'.size)++us++rest).length) ?_ NC ?_ ?_
    .simp[AH.Fg,BU]
    .exact Bl (by rw[CD]; exact if_pos rfl)
    .simp only[Bo,hvt,hus,Qy,AVe]
     have h1:len*i'.size+i'.size=(len+1)*i'.size:=by grind
     rw[h1,<-EI]
     grind
   all_goals grind[CD,BU,SA,GR,AH.Fg]
theorem Xj {w:World} {b b':Nat} {vs us:List Value} {e e':TypeId} {fz fz':Nat×Nat} (h:b≠b'):BH (BH w b vs e fz) b' us e' fz'=BH (BH w b' us e' fz') b vs e fz:=by
 refine I3 ?_ rfl rfl rfl rfl;exact Array.setIfInBounds_comm _ _ h
theorem eD {E:Env} {L:A8} {g:AH} {w:World} {s s':AM} (hI:Inv E g w s) {t:TypeId} {a x:AV} {av xv:Value}
  (ha:V g w a av) (hx:V g w x xv) (h:M8 E L s t a x=some s') :
  ∃id b vs e,(∃off,a=.ptr id off)/\g.blk id=some b/\Ext L g w g (BH w b vs e)/\Inv E g (BH w b vs e) s' /\
   ∀w2:World,w2.heap[b]?=w.heap[b]?->(Instr.storeAt t av xv).run E.P w2=.ok () (BH w2 b vs e):=by
 unfold M8 at h;split at h
 .rename_i id off i hi
  split at h
  .rename_i cs hcs
   simp only at h;split at h
   .rename_i hc
    obtain⟨h1,h2,h3,h4,_,hi0⟩:=hc;simp at h; subst h;simp only[QN] at hcs;cases ha with
    | Ky hd=>
     have:=hI.Dd id hd
     grind
    | @ptr _ _ b hb=>
     obtain⟨cs',vs,e,k1,k2,kle,k3⟩:=hI.blk id b hb;rw[hcs] at k1; simp at k1; subst k1;have hv:=ES hx h4;have hone:∀u∈xv.cells.toList,u.oneCell'=true:=VL.one hv h4;have hlen:xv.cells.size=i.size:=by rw[<-Ho,<-hv.len]; omega
     obtain⟨q1,q2⟩:=hI.putRow (L:=L) (vs':=CC vs off xv.cells.toList) (cs':=setCells cs off (cellsOf x)) hb k2 (Bd _ _ _) h3 (by grind[FG,Bd]) (by grind[FG,VD,VL.setCells]);refine⟨id,b,_,e,⟨off,rfl⟩,hb,q1,q2,λw2 hw2=>?_⟩;simp only[Instr.storeAt,Instr.sureAddr,storeVar,Sem.run_bind,Sem.run_pure,Result.andThen_ok,run_sizeOf hi,hlen,ne_eq,not_true_eq_false,Ia];have:=Ff (P:=E.P) (b:=b) (o:=off) (e:=e) xv.cells.toList 0 w2 vs hone (hw2.trans k2) (by grind);omega
   grind
  grind
 grind
theorem rS {E:Env} {L:A8} {g:AH} {w:World} {s:AM} {ρ:Nat->AV} {a:Act} {o:Oper} {v:AV} (ho:(∃x,o.op=.nilCheck x)\/(∃t x f,o.op=.fieldAddr t x f)\/(∃x,o.op=.move x))
  (hI:Inv E g w s) (hρ:∀t,V g w (ρ t) (a.tmps.getD t undef)) (h:JD E L ρ s o=some v) :
  ∃v',(∀w2:World,(execOp a.eval o).run E.P w2=.ok (.value v') w2)/\V g w v v':=by
 have h:=R8 h;obtain⟨dst,op,type,pos,after,guard⟩:=o;rcases ho with ⟨x,rfl⟩|⟨t,x,f,rfl⟩|⟨x,rfl⟩
 .simp only[Cc] at h
  split at h
  .rename_i u hu
   simp at h; subst h;exact Li _ rfl hI hρ hu
  grind
 .simp only[Cc] at h
  split at h
  .rename_i u hu
   simp at h; subst h;obtain⟨v',hr,hv⟩:=KN hI (Aj hρ x) hu;simp[*,execOp]
  grind
 .simp only[Cc,BG,BK] at h
  obtain⟨rfl,_⟩:=h
  simp_all[execOp,Aj]
structure Ue (E:Env) (L:A8) (cf:Cr) (ops:Array Oper) (p:Bb) (K N:Nat) (ρ0 ρf:Nat->AV) (σ:Nat->AM):Prop where
 ACC:∀(i:Nat) o e,ops[i]?=some o->e∈o.after->Region.binds .any e=true->e.on<i
 pre:∀(i:Nat) o j,ops[i]?=some o->j∈Dr p i->∃e,e∈o.after/\Region.binds .any e=true/\(e.on=j\/j∈Dr p e.on)
 cls:∀(i:Nat) o,ops[i]?=some o->∃c,p.cls[i]?=some c
 dst:∀(i j:Nat) oi oj d,ops[i]?=some oi->ops[j]?=some oj->oi.dst=some d->oj.dst=some d->i=j
 read:∀(i j:Nat) oi oj d,ops[i]?=some oi->ops[j]?=some oj->oj.dst=some d->d∈Gn ops oi++F4 oi ->
  (has (HO p.GQ i) d=true/\(j=i\/i∈Dr p j))\/(has (HO p.GQ i) d=false/\j∈Dr p i)
 rk:∀(i j:Nat) oi oj r r',ops[i]?=some oi->ops[j]?=some oj->E1 p i=some r->E1 p j=some r'->r<r'->i∈Dr p j
 AEM:∀(i j:Nat) oi oj r,ops[i]?=some oi->ops[j]?=some oj->E1 p i=some r->E1 p j=some r->i=j
 AIs:∀k,k<K->∃(i:Nat) (o:Oper),ops[i]?=some o/\E1 p i=some k
 AIt:∀(i:Nat) o r,ops[i]?=some o->E1 p i=some r->r<K
 time:∀(i:Nat) o ts,ops[i]?=some o->(p.cls[i]?=some (.q ts)\/p.cls[i]?=some (.h ts))->∀k,k<=K->k∉ts ->
  ∃(j:Nat) (oj:Oper) (r:Nat),ops[j]?=some oj/\E1 p j=some r/\((j∈Dr p i/\k<=r)\/(i∈Dr p j/\r<k))
 rT:∀(i:Nat) o r (j x:Nat),ops[i]?=some o->p.cls[i]?=some (.fa r j x)->∃o1 o2 k,ops[j]?=some o1/\ops[x]?=some o2/\p.cls[j]?=some .fj/\p.cls[x]?=some .fx/\fused o o1 o2=some k /\
  HO p.GQ i=[]/\HO p.GQ j=[]/\HO p.GQ x=[]/\i∈Dr p j/\j∈Dr p x/\i∈Dr p x /\
  ∃v,KH E L ρf (σ r) k=some (v,σ (r+1))/\ρf k.d=v/\ρf k.p=.Gw
 win:∀(i:Nat) o r (j x:Nat),ops[i]?=some o->p.cls[i]?=some (.fa r j x)->∀(m:Nat) om,ops[m]?=some om->m≠i->m≠j->m≠x ->
  (m∈Dr p i\/x∈Dr p m\/Xc ops p m=true)/\∀d,om.dst=some d->(d∈Dw ops j\/d∈Dw ops x)->m∈Dr p i
 mu:∀(i:Nat) o r (j x d FB off len sz:Nat),Qx E L ops i j x=true->ops[i]?=some o->p.cls[i]?=some (.fa r j x)->o.dst=some d->ρf d=.ref FB off len sz->∀(m:Nat) om r' t y z,ops[m]?=some om->p.cls[m]?=some (.w r')->om.op=.store t y z ->
  ∀id off',Ag (FV p.GQ ρ0 ρf m) y=.ptr id off'->id≠FB
 AOC:∀(j:Nat) oj,ops[j]?=some oj->p.cls[j]?=some .fj->∃(i:Nat) (o:Oper) (r x:Nat),ops[i]?=some o/\p.cls[i]?=some (.fa r j x)
 AOD:∀(x:Nat) ox,ops[x]?=some ox->p.cls[x]?=some .fx->∃(i:Nat) (o:Oper) (r j:Nat),ops[i]?=some o/\p.cls[i]?=some (.fa r j x)
 out:∀t,(∀(i:Nat) o,ops[i]?=some o->o.dst≠some t)->ρf t=ρ0 t
 rU:∀(i:Nat) o d,ops[i]?=some o->o.dst=some d->d<N
 wF:∀(i:Nat) o r,ops[i]?=some o->p.cls[i]?=some (.w r)->∃v,NA E L cf ops (FV p.GQ ρ0 ρf i) (σ r) o=some (v,σ (r+1))/\∀d,o.dst=some d->ρf d=v
 qF:∀(i:Nat) o ts k,ops[i]?=some o->p.cls[i]?=some (.q ts)->k∈ts->∃v,FA E L ops (FV p.GQ ρ0 ρf i) (σ k) o=some v/\∀d,o.dst=some d->ρf d=v
 hF:∀(i:Nat) o ts,ops[i]?=some o->p.cls[i]?=some (.h ts)->o.guard=none/\∃d cs mk id,o.dst=some d/\hcells E (FV p.GQ ρ0 ρf i) o=some (cs,mk)/\ρf d=mk id/\∀k∈ts,(σ k).bs[id]?=some cs
 AOE:∀(i j:Nat) oi oj ts us d e id,ops[i]?=some oi->ops[j]?=some oj->p.cls[i]?=some (.h ts)->p.cls[j]?=some (.h us)->oi.dst=some d->oj.dst=some e->IK (ρf d)=some id->IK (ρf e)=some id->i=j
section
variable {E:Env} {L:A8} {cf:Cr} {ops:Array Oper} {p:Bb} {K N:Nat} {ρ0 ρf:Nat->AV} {σ:Nat->AM}
theorem Ue.rV (R:Ue E L cf ops p K N ρ0 ρf σ):∀i o j,ops[i]?=some o->j∈Dr p i->j<i:=by
 intro i
 induction i using Nat.strongRecOn with
 | ind i ih=>
  intro o j ho hj;obtain⟨e,he,hb,h⟩:=R.pre i o j ho hj;have hlt:=R.ACC i o e ho he hb
  grind
def Down (ops:Array Oper) (D:Nat->Prop):Prop:=∀(i:Nat) o e,ops[i]?=some o->D i->e∈o.after->Region.binds .any e=true->D e.on
theorem Ue.K2 (R:Ue E L cf ops p K N ρ0 ρf σ) {D:Nat->Prop} (hD:Down ops D):∀i o j,ops[i]?=some o->(∀e∈o.after,Region.binds .any e=true->D e.on)->j∈Dr p i->D j:=by
 intro i
 induction i using Nat.strongRecOn with
 | ind i ih=>
  intro o j ho hr hj;obtain⟨e,he,hb,h⟩:=R.pre i o j ho hj;have hlt:=R.ACC i o e ho he hb;have hde:=hr e he hb;rcases h with rfl|h
  .omega
  .obtain⟨oe,hoe⟩:∃oe,ops[e.on]?=some oe:=⟨ops[e.on]'(by grind),by simp⟩
   exact ih e.on hlt oe j hoe (λe' he' hb'=>hD e.on oe e' hoe hde he' hb') h
theorem Ue.Lj (R:Ue E L cf ops p K N ρ0 ρf σ) {D:Nat->Prop} (hD:Down ops D) {i j:Nat} {o:Oper} (ho:ops[i]?=some o) (hi:D i) (hj:j∈Dr p i):D j:=
 R.K2 hD i o j ho (λe he hb=>hD i o e ho hi he hb) hj
open Classical in
noncomputable def rho (ops:Array Oper) (ρ0 ρf:Nat->AV) (D:Nat->Prop) (t:Nat):AV:=if ∃(i:Nat) (o:Oper),ops[i]?=some o/\o.dst=some t/\D i then ρf t else ρ0 t
theorem SB {D:Nat->Prop} {t i:Nat} {o:Oper} (ho:ops[i]?=some o) (hd:o.dst=some t) (hi:D i):rho ops ρ0 ρf D t=ρf t:=if_pos ⟨i,o,ho,hd,hi⟩
theorem RY {D:Nat->Prop} {t:Nat} (h:∀(i:Nat) (o:Oper),ops[i]?=some o->o.dst=some t->¬ D i):rho ops ρ0 ρf D t=ρ0 t:=if_neg (λ⟨i,o,ho,hd,hi⟩=>h i o ho hd hi)
theorem Ue.SC (R:Ue E L cf ops p K N ρ0 ρf σ) {D:Nat->Prop} {t:Nat} (h:∀(i:Nat) (o:Oper),ops[i]?=some o->o.dst≠some t):rho ops ρ0 ρf D t=ρf t:=by
 rw[RY (λi o ho hd=>absurd hd (h i o ho)),R.out t h]
theorem Ue.agree (R:Ue E L cf ops p K N ρ0 ρf σ) {D:Nat->Prop} (hD:Down ops D) {i:Nat} {o:Oper} (ho:ops[i]?=some o) (hn:¬ D i) (hr:∀e∈o.after,Region.binds .any e=true->D e.on) :
  ∀t∈Gn ops o++F4 o,rho ops ρ0 ρf D t=FV p.GQ ρ0 ρf i t:=by
 intro t ht;unfold FV
 by_cases hw:∃(j:Nat) (oj:Oper),ops[j]?=some oj/\oj.dst=some t
 .obtain⟨j,oj,rW,rX⟩:=hw
  rcases R.read i j o oj t ho rW rX ht with ⟨h1,h2⟩|⟨h1,h2⟩
  .rw[h1,AN]
   refine RY λk ok hok hdk hDk=>?_
   have:k=j:=R.dst k j ok oj t hok rW hdk rX;subst this;rcases h2 with rfl|h2
   .grind
   .exact hn (R.Lj hD hok hDk h2)
  .rw[h1,AG]
   exact SB rW rX (R.K2 hD i o j ho hr h2)
 .have hno:∀(j:Nat) (oj:Oper),ops[j]?=some oj->oj.dst≠some t:=λj oj rW rX=>hw ⟨j,oj,rW,rX⟩
  rw[R.SC hno];cases has (HO p.GQ i) t with
  | true=>rw[AN,R.out t hno]
  | false=>rfl
end
def Open (P:Program) (q:AV) (X:Prop) (kf:JB) (Dj:Prop) (a:Act) (g:AH) (w wv:World):Prop:=
 ∃(b cap len:Nat) (vz:List Value) (e:TypeId) (fz:Nat×Nat) (xv:Value) (kk:IntKind) (elem:TypeId) (ti:TypeInfo),
  P.underlying kf.t=some (.slice elem)/\P.info? elem=some ti/\kf.te=elem /\
  a.eval (.tmp kf.d)=.slice (some ⟨b,0,none⟩) (len+1) cap/\a.eval kf.ix=.int kk (len:Int)/\a.eval kf.v=xv/\xv.cells.size=ti.size/\(∀u∈xv.cells.toList,u.oneCell'=true) /\
  wv.heap[b]?=some (.cells ⟨CC vz (len*ti.size) xv.cells.toList⟩ e fz)/\w=BH wv b vz e fz/\(len*ti.size+ti.size<=vz.length/\fz.2<=len*ti.size)/\((∃k l,g.tok k=some l/\l.b=b)\/∃FB off n sz,q=.ref FB off n sz/\g.blk FB=some b/\X) /\
  (Dj->a.eval (.tmp kf.p)=.pointer (some ⟨b,len*ti.size,none⟩))
def Mn (ops:Array Oper) (p:Bb) (D:Nat->Prop) (i:Nat):Prop:=∀(i':Nat) o' r' (j' x':Nat),ops[i']?=some o'->p.cls[i']?=some (.fa r' j' x')->D i'->i'≠i->D x'
def Window (E:Env) (L:A8) (ρf:Nat->AV) (ops:Array Oper) (p:Bb) (D:Nat->Prop) (a:Act) (g:AH) (w wv:World):Prop:=
 (w=wv/\∀i,Mn ops p D i) \/
 ∃(i:Nat) (o:Oper) (r j x:Nat) (o1 o2:Oper) (kf:JB),ops[i]?=some o/\p.cls[i]?=some (.fa r j x)/\ops[j]?=some o1/\ops[x]?=some o2/\fused o o1 o2=some kf/\D i/\¬ D x /\
  Mn ops p D i/\Open E.P (ρf kf.d) (Qx E L ops i j x=true) kf (D j) a g w wv
structure Core (E:Env) (L:A8) (ops:Array Oper) (p:Bb) (K N:Nat) (ρ0 ρf:Nat->AV) (σ:Nat->AM) (ds:List Deferred) (g0:AH) (w0:World) (D:Nat->Prop) (a:Act) (k:Nat) (g:AH) (wv:World):Prop where
 kK:k<=K
 time:∀(i:Nat) o r,ops[i]?=some o->E1 p i=some r->(D i<->r<k)
 size:a.tmps.size=N
 defers:a.defers=ds
 ext:Ext L g0 w0 g wv
 inv:Inv E g wv (σ k)
 tmps:∀t,V g wv (rho ops ρ0 ρf D t) (a.tmps.getD t undef)
 C9:∀(i:Nat) o ts d id,ops[i]?=some o->p.cls[i]?=some (.h ts)->o.dst=some d->IK (ρf d)=some id->¬ D i->g.C9 id
def J (E:Env) (L:A8) (ops:Array Oper) (p:Bb) (K N:Nat) (ρ0 ρf:Nat->AV) (σ:Nat->AM) (ds:List Deferred) (g0:AH) (w0:World) (D:Nat->Prop) (a:Act) (w:World):Prop:=
 ∃k g wv,Core E L ops p K N ρ0 ρf σ ds g0 w0 D a k g wv/\Window E L ρf ops p D a g w wv
theorem SD (a:Act) (d:Option Tmp) (v:Value):(a.put d v).tmps.size=a.tmps.size:=by cases d <;> simp[Act.put]
theorem put_defers (a:Act) (d:Option Tmp) (v:Value):(a.put d v).defers=a.defers:=by cases d <;> rfl
theorem JK {a:Act} {d:Nat} {v:Value} (h:d<a.tmps.size):(a.put (some d) v).tmps.getD d undef=v:=by simp[Act.put,h]
theorem PN {a:Act} {d:Option Tmp} {v:Value} {t:Nat} (h:d≠some t):(a.put d v).tmps.getD t undef=a.tmps.getD t undef:=by
 cases d with
 | none=>rfl
 | some d=>
  simp_all[Act.put]
section
variable {E:Env} {L:A8} {cf:Cr} {ops:Array Oper} {p:Bb} {K N:Nat} {ρ0 ρf:Nat->AV} {σ:Nat->AM} {ds:List Deferred} {g0:AH} {w0:World}
theorem Core.push (R:Ue E L cf ops p K N ρ0 ρf σ) {D:Nat->Prop} {a:Act} {k k':Nat} {g g':AH} {wv wv':World} (h:Core E L ops p K N ρ0 ρf σ ds g0 w0 D a k g wv) {m:Nat} {om:Oper} (hm:ops[m]?=some om)
  (hk:(E1 p m=none/\k'=k)\/(E1 p m=some k/\k'=k+1)) (AVh:Ext L g0 w0 g' wv') (hmono:∀x u,V g wv x u->V g' wv' x u) (hinv:Inv E g' wv' (σ k')) {v':Value}
  (hv:∀d,om.dst=some d->V g' wv' (ρf d) v')
  (AOF:∀(i:Nat) o ts d id,ops[i]?=some o->p.cls[i]?=some (.h ts)->o.dst=some d->IK (ρf d)=some id->¬ D i->i≠m->g'.C9 id) :
  Core E L ops p K N ρ0 ρf σ ds g0 w0 (λi=>D i\/i=m) (a.put om.dst v') k' g' wv' where
 kK:=by
  rcases hk with ⟨_,rfl⟩|⟨h1,rfl⟩
  .exact h.kK
  .exact R.AIt m om k hm h1
 time:=λi o r ho hr=>by
  have ht:=h.time i o r ho hr;rcases hk with ⟨h1,rfl⟩|⟨h1,rfl⟩
  .grind
  .by_cases hi:i=m
   .grind
   .have:r≠k:=λe=>hi (R.AEM i m o om r ho hm hr (e ▸ h1))
    grind
 size:=by rw[SD]; exact h.size
 defers:=by rw[put_defers]; exact h.defers
 ext:=AVh
 inv:=hinv
 tmps:=λt=>by
  by_cases ht:om.dst=some t
  .rw[SB hm ht (.inr rfl),ht,JK (by rw[h.size]; exact R.rU m om t hm ht)]
   grind
  .rw[PN ht]
   have:rho ops ρ0 ρf (λi=>D i\/i=m) t=rho ops ρ0 ρf D t:=by
    by_cases hx:∃(i:Nat) (o:Oper),ops[i]?=some o/\o.dst=some t/\D i
    all_goals grind[SB,RY]
   rw[this];exact hmono _ _ (h.tmps t)
 C9:=λi o ts d id ho hc hd hid hn=>AOF i o ts d id ho hc hd hid (λx=>hn (.inl x)) (λx=>hn (.inr x))
theorem Core.now (R:Ue E L cf ops p K N ρ0 ρf σ) {D:Nat->Prop} {a:Act} {k:Nat} {g:AH} {wv:World} (h:Core E L ops p K N ρ0 ρf σ ds g0 w0 D a k g wv) (hD:Down ops D) {m r:Nat} {om:Oper} (hm:ops[m]?=some om) (hn:¬ D m)
  (hr:∀e∈om.after,Region.binds .any e=true->D e.on) (ZT:E1 p m=some r):r=k:=by
 have h1:k<=r:=by
  rcases FR r k with x|x
  .exact absurd ((h.time m om r hm ZT).2 x) hn
  omega
 rcases FR k r with x|x
 .obtain⟨i,o,ho,hi⟩:=R.AIs k (by have:=R.AIt m om r hm ZT; omega)
  have:=(h.time i o k ho hi).1 (R.K2 hD m om i hm hr (R.rk i m o om k r ho hm hi ZT x));omega
 omega
theorem Core.rY (R:Ue E L cf ops p K N ρ0 ρf σ) {D:Nat->Prop} {a:Act} {k:Nat} {g:AH} {wv:World} (h:Core E L ops p K N ρ0 ρf σ ds g0 w0 D a k g wv) (hD:Down ops D) {m:Nat} {om:Oper} {ts:List Nat} (hm:ops[m]?=some om) (hn:¬ D m)
  (hr:∀e∈om.after,Region.binds .any e=true->D e.on) (hc:p.cls[m]?=some (.q ts)\/p.cls[m]?=some (.h ts)):k∈ts:=by
 rcases Classical.em (k∈ts) with x|x
 .exact x
 .obtain⟨j,oj,r,rW,ZT,h1|h1⟩:=R.time m om ts hm hc k h.kK x
  .have:=(h.time j oj r rW ZT).1 (R.K2 hD m om j hm hr h1.1)
   omega
  .exact absurd (R.Lj hD rW ((h.time j oj r rW ZT).2 h1.2) h1.1) hn
theorem Mn.more {D:Nat->Prop} {m i:Nat} {om:Oper} (hm:ops[m]?=some om) (hnf:∀r j x,p.cls[m]?≠some (.fa r j x)) (h:Mn ops p D i):Mn ops p (λi=>D i\/i=m) i:=by
 intro i' o' r' j' x' ho hc hi hne;rcases hi with hi|rfl
 .exact .inl (h i' o' r' j' x' ho hc hi hne)
 grind
end
theorem KP {rd:Option Nat} {P:Program} {ops:Array Oper} {Q:Exit->Act->World->Prop} {m:Nat} {om:Oper} {K:Act->World->Prop} {a:Act} {w:World} (hm:ops[m]?=some om)
  (hw:Region.wanted om (yielded ops a.tmps)=true) (h:om.wpIn (FW rd) 0 P a w K Q):wpOpIn (FW rd) 0 P ops Q m K a w:=by grind[wpOpIn]
theorem RZ {rd:Option Nat} {P:Program} {ops:Array Oper} {Q:Exit->Act->World->Prop} {m:Nat} {om:Oper} {K:Act->World->Prop} {a:Act} {w:World} (hm:ops[m]?=some om)
  (hw:Region.wanted om (yielded ops a.tmps)=false) (h:K (a.put om.dst undef) w):wpOpIn (FW rd) 0 P ops Q m K a w:=by
 simp only[wpOpIn,hm,hw,DH,Ia];exact⟨λ_ _=>trivial,h⟩
theorem MV {rd:Option Nat} {P:Program} {ops:Array Oper} {Q:Exit->Act->World->Prop} {m:Nat} {om:Oper} {K:Act->World->Prop} {a:Act} {w w':World} {v:Value} (hm:ops[m]?=some om)
  (hg:om.guard=none) (hr:(execOp a.eval om).run P w=.ok (.value v) w') (h:K (a.put om.dst v) w'):wpOpIn (FW rd) 0 P ops Q m K a w:=
 KP hm (by grind[Region.wanted]) (Jq hr h)
theorem ZU {E:Env} {L:A8} {cf:Cr} {ρ:Nat->AV} {s:AM} {o:Oper} {v:AV} (h:JD E L ρ s o=some v):M9 E L cf ρ s o=some (v,s):=by grind[R8,OA,nM,Cc]
theorem F5 {o o1 o2:Oper} {kf:JB} (h:fused o o1 o2=some kf) :
  o.op=.call { callee:=.builtin .append,args:=#[kf.x,kf.y],argTypes:=#[kf.t,kf.t] }/\o.dst=some kf.d/\o1.op=.indexAddr kf.t (.tmp kf.d) kf.ix/\o1.dst=some kf.p /\
  o2.op=.store kf.te (.tmp kf.p) kf.v/\o2.dst=none/\kf.d≠kf.p/\(o.guard=none/\o1.guard=none/\o2.guard=none)/\kf.ix≠.tmp kf.d/\kf.v≠.tmp kf.d/\kf.v≠.tmp kf.p:=by
 unfold fused at h;split at h
 .rename_i args ts d t1 d1 ix p te p1 v ho hd ho1 hd1 qa SE
  split at h
  .rename_i x y t t' ha ht
   split at h
   .rename_i hc
    obtain⟨rfl,rfl,rfl,rfl,hne,g1,g2,g3,h1,h2,h3,_⟩:=hc;simp at h;subst h;have Ir:args=#[x,y]:=by rw[<-G2 (xs:=args),ha]
    have ht':ts=#[t',t']:=by rw[<-G2 (xs:=ts),ht]
    subst Ir ht';have hn:∀(z:Operand) (q:Nat),LM z q=false->z≠.tmp q:=λz q hz e=>by simp_all[LM]
    simp_all
   grind
  grind
 grind
theorem QW {o o1 o2:Oper} {kf:JB} (h:fused o o1 o2=some kf):∀z,z=kf.x\/z=kf.y\/z=kf.ix\/z=kf.v->z≠.tmp kf.d/\z≠.tmp kf.p:=by
 unfold fused at h;split at h
 .split at h
  .split at h
   .rename_i hc
    obtain⟨rfl,rfl,rfl,rfl,hne,g1,g2,g3,h1,h2,h3,h4,h5,h6,h7,h8⟩:=hc;simp at h;subst h;have hn:∀(z:Operand) (q:Nat),LM z q=false->z≠.tmp q:=λz q hz e=>by simp_all[LM]
    grind
   grind
  grind
 grind
theorem EM {a:Act} {d:Option Tmp} {v:Value} {z:Operand} (h:∀t,z=.tmp t->d≠some t):(a.put d v).eval z=a.eval z:=by
 cases z with
 | tmp t=>exact PN (h t rfl)
 | const c=>rfl
 | global g=>rfl
 | func f=>rfl
section
variable {rd:Option Nat} {E:Env} {L:A8} {cf:Cr} {ops:Array Oper} {p:Bb} {K N:Nat} {ρ0 ρf:Nat->AV} {σ:Nat->AM} {ds:List Deferred} {g0:AH} {w0:World} {Q:Exit->Act->World->Prop}
theorem J5 {m r:Nat} (h:p.cls[m]?=some (.w r)):E1 p m=some r:=by grind[E1,Jn]
theorem Jr {m r j x:Nat} (h:p.cls[m]?=some (.fa r j x)):E1 p m=some r:=by grind[E1,Jn]
theorem PO {m:Nat} {ts:List Nat} (h:p.cls[m]?=some (.q ts)):E1 p m=none:=by grind[E1,Jn]
theorem rZ {m:Nat} {ts:List Nat} (h:p.cls[m]?=some (.h ts)):E1 p m=none:=by grind[E1,Jn]
theorem jW {m:Nat} (h:p.cls[m]?=some .fj):E1 p m=none:=by grind[E1,Jn]
theorem jX {m:Nat} (h:p.cls[m]?=some .fx):E1 p m=none:=by grind[E1,Jn]
theorem Ue.AIu (R:Ue E L cf ops p K N ρ0 ρf σ) {D:Nat->Prop} (hD:Down ops D) {m r j x:Nat} {om:Oper} (hm:ops[m]?=some om) (hc:p.cls[m]?=some (.fa r j x)) (hr:∀e∈om.after,Region.binds .any e=true->D e.on)
  {o1 o2:Oper} {kf:JB} (h1:ops[j]?=some o1) (h2:ops[x]?=some o2) (hf:fused om o1 o2=some kf) (w1:HO p.GQ m=[]) (w2:HO p.GQ j=[]) :
  ∀z,z=kf.x\/z=kf.y\/z=kf.ix\/z=kf.v->Ag ρf z=Ag (rho ops ρ0 ρf D) z:=by
 obtain⟨f1,f2,f3,f4,f5,f6,f7,f8,f9,f10,f11⟩:=F5 hf;intro z hz;refine Jo λt ht=>?_
 subst ht
 by_cases hw:∃(i:Nat) (o:Oper),ops[i]?=some o/\o.dst=some t
 .obtain⟨i,oi,Ra,nV⟩:=hw
  have hpre:i∈Dr p m:=by
   by_cases hxy:Operand.tmp t=kf.x\/Operand.tmp t=kf.y
   .have:t∈F4 om:=DQ.2 (by grind[Op.operands,Call.operands])
    rcases R.read m i om oi t hm Ra nV (Ib _ this) with ⟨q1,_⟩|⟨_,q2⟩
    all_goals grind[has]
   .have hiv:Operand.tmp t=kf.ix\/Operand.tmp t=kf.v:=by grind
    by_cases e1:i=m
    .grind
    by_cases e2:i=j
    .subst e2
     rw[h1] at Ra; simp at Ra; subst Ra;rw[f4] at nV; simp at nV; subst nV;rcases hiv with e|e
     .have:kf.p∈F4 o1:=DQ.2 (by grind[Op.operands])
      rcases R.read i i o1 o1 kf.p h1 h1 f4 (Ib _ this) with ⟨q1,_⟩|⟨_,q2⟩
      .grind[has]
      .exact absurd (R.rV i o1 i h1 q2) (Nx _)
     grind
    by_cases e3:i=x
    .grind
    refine(R.win m om r j x hm hc i oi Ra e1 e2 e3).2 t nV ?_
    grind[Dw,DQ,Op.operands]
  exact(SB Ra nV (R.K2 hD m om i hm hr hpre)).symm
 .exact(R.SC λi o ho hd=>hw ⟨i,o,ho,hd⟩).symm
theorem ZV (R:Ue E L cf ops p K N ρ0 ρf σ) (RX:HX E L cf) {D:Nat->Prop} (hD:Down ops D) {a:Act} {k:Nat} {g:AH} {w:World} (h:Core E L ops p K N ρ0 ρf σ ds g0 w0 D a k g w) (hsh:∀i,Mn ops p D i)
  (hnp:∀(i:Nat) o ts d id,ops[i]?=some o->p.cls[i]?=some (.h ts)->o.dst=some d->IK (ρf d)=some id->¬ g0.C9 id)
  {m:Nat} {om:Oper} (hm:ops[m]?=some om) (hn:¬ D m) (hr:∀e∈om.after,Region.binds .any e=true->D e.on) :
  wpOpIn (FW rd) 0 E.P ops Q m (J E L ops p K N ρ0 ρf σ ds g0 w0 (λi=>D i\/i=m)) a w:=by
 have hag:=R.agree hD hm hn hr;obtain⟨c,hc⟩:=R.cls m om hm;have ri:(∀r j x,p.cls[m]?≠some (.fa r j x))->∀i,Mn ops p (λi=>D i\/i=m) i:=λhnf i=>Mn.more hm hnf (hsh i)
 have Em:∀(g':AH),(∀id,g.C9 id->g'.C9 id)->∀(i:Nat) o ts d id,ops[i]?=some o->p.cls[i]?=some (.h ts)->o.dst=some d->IK (ρf d)=some id->¬ D i->i≠m->g'.C9 id:=
  λg' hg i o ts d id ho HQ hd hid hnD _=>hg id (h.C9 i o ts d id ho HQ hd hid hnD)
 cases c with
 | w r=>
  have hk:=h.now R hD hm hn hr (J5 hc);subst hk;obtain⟨v,hact,hv⟩:=R.wF m om r hm hc;rw[<-NH hag] at hact;unfold NA at hact;have hs:=ri (λ_ _ _ e=>by grind);split at hact
  .rename_i hg
   refine KP hm (DG h.tmps hg) (NJ RX h.inv h.tmps hact λv' w' g' hV hE hI=>?_);exact⟨r+1,g',w',h.push R hm (.inr ⟨J5 hc,rfl⟩) (h.ext.trans hE) (λ_ _ q=>q.mono hE) hI (λd hd=>by grind) (Em g' hE.C9),.inl ⟨rfl,hs⟩⟩
  .rename_i hg
   simp only[BG,BK] at hact;obtain⟨rfl,hst⟩:=hact;refine RZ hm (DG h.tmps hg) ?_;exact⟨r+1,g,w,h.push R hm (.inr ⟨J5 hc,rfl⟩) h.ext (λ_ _ q=>q) (hst ▸ h.inv) (λd hd=>by grind[V.undef]) (Em g λ_ q=>q),.inl ⟨rfl,hs⟩⟩
  grind
 | q ts=>
  obtain⟨v,hq,hv⟩:=R.qF m om ts k hm hc (h.rY R hD hm hn hr (.inl hc));rw[<-Ip hag] at hq;unfold FA at hq;have hs:=ri (λ_ _ _ e=>by grind);split at hq
  .rename_i hg
   refine KP hm (DG h.tmps hg) (NJ RX h.inv h.tmps (ZU hq) λv' w' g' hV hE hI=>?_);exact⟨k,g',w',h.push R hm (.inl ⟨PO hc,rfl⟩) (h.ext.trans hE) (λ_ _ q=>q.mono hE) hI (λd hd=>by grind) (Em g' hE.C9),.inl ⟨rfl,hs⟩⟩
  .rename_i hg
   simp only[BG] at hq;subst hq;refine RZ hm (DG h.tmps hg) ?_;exact⟨k,g,w,h.push R hm (.inl ⟨PO hc,rfl⟩) h.ext (λ_ _ q=>q) h.inv (λd hd=>by grind[V.undef]) (Em g λ_ q=>q),.inl ⟨rfl,hs⟩⟩
  grind
 | h ts=>
  obtain⟨hg,d,cs,mk,id,hd,hh,hmk,qX⟩:=R.hF m om ts hm hc;have hcs:=qX k (h.rY R hD hm hn hr (.inr hc));rw[<-OH (λt ht=>hag t (Ib _ ht))] at hh;obtain⟨vs,e,mv,hrun,hvl,hV,hid⟩:=Xi h.tmps hh;have AOH:g.C9 id:=h.C9 m om ts d id hm hc hd (by grind) hn;obtain⟨p1,p2,p3⟩:=h.inv.Dl id AOH;obtain⟨e2,i2⟩:=h.inv.fill (L:=L) (id:=id) (q:=λi=>g.C9 i/\i≠id) (cs:=cs) (vs:=vs) (λ_=>Iff.rfl) e p1 p2 p3 (λb hb=>(h.inv.LN id b hb).2.2 AOH) hcs hvl.full.1 hvl.full.2;have e1:Ext L g0 w0 (g.B6 λi=>g.C9 i/\i≠id) w:=h.ext.B6 λi hi=>⟨h.ext.C9 i hi,λq=>hnp m om ts d id hm hc hd (by grind) (q ▸ hi)⟩
  refine MV hm hg hrun ⟨k,_,_,h.push R hm (.inl ⟨rZ hc,rfl⟩) (e1.trans e2) (λ_ _ q=>q.B6.mono e2) i2 (λd' hd'=>?_) ?_,.inl ⟨rfl,ri (λ_ _ _ e=>by grind)⟩⟩
  .rw[hd] at hd'; simp at hd'; subst hd'
   rw[hmk];exact hV _ _ id w.heap.size (by simp[AH.Fg]) (Bl (by rw[CD]; exact if_pos rfl))
  .intro i o ts' d' id' ho HQ nV AOI hnD hne
   refine⟨h.C9 i o ts' d' id' ho HQ nV AOI hnD,λq=>hne ?_⟩;subst q;exact R.AOE i m o om ts' ts d' d id' ho hm HQ hc nV hd AOI (by grind)
 | fa r j x=>
  have hk:=h.now R hD hm hn hr (Jr hc);subst hk;obtain⟨o1,o2,kf,h1,h2,c1,c2,hf,w1,w2,w3,p1,p2,p3,v,OJ,hvd,hvp⟩:=R.rT m om r j x hm hc;have ACE:=R.AIu hD hm hc hr h1 h2 hf w1 w2;obtain⟨f1,f2,f3,f4,f5,f6,f7,f8,f9,f10,f11⟩:=F5 hf;have hVx:=Aj h.tmps kf.x;have hVy:=Aj h.tmps kf.y;have hVi:=Aj h.tmps kf.ix;have hVv:=Aj h.tmps kf.v;rw[<-ACE _ (.inl rfl)] at hVx;rw[<-ACE _ (.inr (.inl rfl))] at hVy;rw[<-ACE _ (.inr (.inr (.inl rfl)))] at hVi;rw[<-ACE _ (.inr (.inr (.inr rfl)))] at hVv;cases rM:JC E L ρf (σ r) kf with
  | some res=>
   have OJ:JC E L ρf (σ r) kf=some (v,σ (r+1)):=by grind[KH]
   unfold JC at OJ;split at OJ
   .rename_i elem hu
    split at OJ
    .rename_i XV
     split at OJ
     .rename_i ti rows z n row dS hrows hz qb hrow
      split at OJ
      .rename_i hcnd
       obtain⟨q1,q2,q3,q4,q5,q6,q7⟩:=hcnd;have hvl:=ES hVv q4;obtain⟨t1,t2⟩:=Gk hvl hrow;obtain⟨b,cap,vz,e,fz,w1',wv',g',a1,a2,a3,a4,a5,a6,a7,a8⟩:=Lh (T:=om.type) h.inv hu dS q6 q7 hVx hrows hVy hz q2 q5 (us:=(a.eval kf.v).cells.toList) (by omega) q3 t2 OJ;obtain⟨kk,R3⟩:=FC hVi qb;have hrun:(execOp a.eval om).run E.P w=.ok (.value (.slice (some ⟨b,0,none⟩) (rows.length+1) cap)) w1':=by simp[*,execOp,resolve,invoke,builtin]
       have hnj:¬ (D j\/j=m):=λq=>q.elim (λq=>hn (R.Lj hD h1 q p1)) (λq=>by grind)
       have hnx:¬ (D x\/x=m):=λq=>q.elim (λq=>hn (R.Lj hD h2 q p3)) (λq=>by grind)
       refine MV hm f8.1 hrun ⟨r+1,g',wv',h.push R hm (.inr ⟨Jr hc,rfl⟩) (h.ext.trans a3) (λ_ _ q=>q.mono a3) a4 (λd hd=>?_) (Em g' a3.C9),.inr ?_⟩
       .grind
       .refine⟨m,om,r,j,x,o1,o2,kf,hm,hc,h1,h2,hf,.inr rfl,hnx,?_,b,cap,rows.length,vz,e,fz,a.eval kf.v,kk,elem,ti,hu,dS,XV.2,?_,?_,?_,?_,?_,a5,a6,?_,.inl a8,λq=>absurd q hnj⟩
        .intro i' o' r' j' x' ho' KQ hi' hne
         rcases hi' with hi' | hi'
         .exact .inl (hsh m i' o' r' j' x' ho' KQ hi' hne)
         omega
        .rw[f2]; exact JK (by rw[h.size]; exact R.rU m om kf.d hm f2)
        .grind[EM]
        all_goals grind[EM,VL.one]
      grind
     grind
    grind
   grind
  | none=>
   unfold KH at OJ;rw[rM] at OJ;simp only at OJ;unfold VA at OJ;split at OJ
   .rename_i elem hu
    split at OJ
    .rename_i XV
     split at OJ
     .rename_i ti id off len sz n dS hxe qb
      split at OJ
      .rename_i zs old hzs hold
       split at OJ
       .rename_i hcnd
        obtain⟨q1,q2,q3,q4,q5,q6,q7,rfl,rfl,q8,q9,q10,q11,q12⟩:=hcnd;simp only[BG,BK] at OJ;obtain⟨hfv,hfs⟩:=OJ;have hvl:=ES hVv q4;rw[hxe] at hVx;obtain⟨b,cap,vz,e,fz,w1',wv',g',a1,a2,a3,a4,a5,a6,a7,a8⟩:=eC (L:=L) (T:=om.type) h.inv hu dS q6 q7 hVx hVy hzs q2 q5 hold q8 q9 q10 q11 q12 (us:=(a.eval kf.v).cells.toList) (by rw[<-hvl.len]; omega) hvl;rw[hfs] at a4;obtain⟨kk,R3⟩:=FC hVi qb;have hrun:(execOp a.eval om).run E.P w=.ok (.value (.slice (some ⟨b,0,none⟩) (len+1) cap)) w1':=by simp[*,execOp,resolve,invoke,builtin]
        have hnj:¬ (D j\/j=m):=λq=>q.elim (λq=>hn (R.Lj hD h1 q p1)) (λq=>by grind)
        have hnx:¬ (D x\/x=m):=λq=>q.elim (λq=>hn (R.Lj hD h2 q p3)) (λq=>by grind)
        refine MV hm f8.1 hrun ⟨r+1,g',wv',h.push R hm (.inr ⟨Jr hc,rfl⟩) (h.ext.trans a3) (λ_ _ q=>q.mono a3) a4 (λd hd=>?_) (Em g' a3.C9),.inr ?_⟩
        .grind
        .refine⟨m,om,r,j,x,o1,o2,kf,hm,hc,h1,h2,hf,.inr rfl,hnx,?_,b,cap,len,vz,e,fz,a.eval kf.v,kk,elem,ti,hu,dS,XV.2,?_,?_,?_,?_,?_,a5,a6,?_,.inr ⟨_,_,_,_,by rw[hvd]; exact hfv.symm,a8,by grind[Qx]⟩,λq=>absurd q hnj⟩
         .intro i' o' r' j' x' ho' KQ hi' hne
          rcases hi' with hi' | hi'
          .exact .inl (hsh m i' o' r' j' x' ho' KQ hi' hne)
          omega
         .rw[f2]; exact JK (by rw[h.size]; exact R.rU m om kf.d hm f2)
         .grind[EM]
         .grind[EM]
         .rw[<-Ho,<-hvl.len]; omega
         .grind[VL.one]
         .have:=a7; rw[<-hvl.len,q3] at this; omega
       grind
      grind
     grind
    grind
   grind
 | fj=>
  obtain⟨i,o,r,x,ho,HQ⟩:=R.AOC m om hm hc;obtain⟨o1,o2,kf,h1,h2,c1,c2,hf,w1,w2,w3,p1,p2,p3,_⟩:=R.rT i o r m x ho HQ;have nW:=R.K2 hD m om i hm hr p1;have hDx:=hsh m i o r m x ho HQ nW (λe=>by grind);exact absurd (R.Lj hD h2 hDx p2) hn
 | fx=>
  obtain⟨i,o,r,j,ho,HQ⟩:=R.AOD m om hm hc;obtain⟨o1,o2,kf,h1,h2,c1,c2,hf,w1,w2,w3,p1,p2,p3,_⟩:=R.rT i o r j m ho HQ;have nW:=R.K2 hD m om i hm hr p3;exact absurd (hsh m i o r j m ho HQ nW (λe=>by grind)) hn
end
end Go.Tel
