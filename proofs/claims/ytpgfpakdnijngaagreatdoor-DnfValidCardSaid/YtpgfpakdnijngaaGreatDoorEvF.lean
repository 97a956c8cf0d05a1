/-
  A row that is appended as zero and then written: the world meanwhile.
-/
import Derived.Test.YtpgfpakdnijngaaGreatDoorEvE
set_option linter.all false
namespace Go.Tel
theorem uR (us:List Value):∀(vs vs':List Value) (k:Nat),vs.length=vs'.length->(∀q,(q<k\/k+us.length<=q)->vs[q]?=vs'[q]?)->CL vs k us=CL vs' k us:=by
 induction us with
 | nil=>intro vs vs' k hl h; simp only[CL]; exact FO λq=>h q AB
 | cons u us ih=>
  grind[CL]
theorem XU (us zs:List Value) (h:zs.length=us.length) (vs:List Value) (k:Nat):CL (CL vs k zs) k us=CL vs k us:=
 uR us _ _ k (Bp _ _ _) λ_ hq=>Fg _ _ _ _ AA
theorem uS (us:List Value):∀(os r:List Value),r.length=us.length->∀rest,CL (os++r++rest) os.length us=os++us++rest:=by
 intro os r hr rest;apply FO;intro q;rcases Fq q os.length with a|a
 .grind[Fg]
 .rcases Fq q (os.length+us.length) with b|b
  .obtain⟨j,rfl⟩:∃j,q=os.length+j:=⟨q-os.length,AA⟩
   simp_all[HG,Ey,CX]
  grind[Fg]
theorem Tw {os rest:List Value} (zs us:List Value) (h:zs.length=us.length):CL (os++zs++rest) os.length us=os++us++rest:=uS us os zs h rest
theorem Gn {w:World} {vs us:List Value} {e:TypeId}:BO (Cf w vs e) w.heap.size us e=Cf w us e:=by
 refine Jd ?_ rfl rfl rfl rfl;apply S3
 grind[Bj,Cf]
theorem VP.one {I:Nat->Nat->Prop} {w:World} {p:PV} {u:Value} (g:AP) (hg:g.I=I) (h:VP I w p u) (ho:A7 (.pv p)=true):u.oneCell'=true:=by
 subst hg;exact Jr (.pv h) ho
theorem Flat.one {I:Nat->Nat->Prop} {w:World} {z:List PV} {us:List Value} (g:AP) (hg:g.I=I) (h:Flat I w [z] z.length us) (ho:(z.map AV.pv).all A7=true):∀u∈us,u.oneCell'=true:=by
 intro u hu;obtain⟨j,hj,rfl⟩:=NT.1 hu;have hlen:=h.len;simp at hlen;obtain⟨u',h1,h2⟩:=h.at_ 0 z j z[j] rfl AD
 grind[VP.one]
theorem Mm {E:Env} {L:BI} {g:AP} {w:World} {s s':AQ} (hI:Inv E g w s) {t elem T:TypeId} {i:TypeInfo} {x y v:AV} {xv yv:Value} {rows:List (List PV)} {z row:List PV} {us:List Value}
  (ht:E.P.underlying t=some (.slice elem)) (hi:E.P.info? elem=some i) (hk:i.size≠0) (hze:(zeroOf E.P elem).map List.length=some i.size)
  (hx:V g w x xv) (lq:rowsOf x=some rows) (hy:V g w y yv) (hyr:rowsOf y=some [z]) (hzl:z.length=i.size) (hzo:(z.map AV.pv).all A7=true)
  (hus:us.length=i.size) (hrow:row.length=i.size) (hvp:∀(j:Nat) p,row[j]?=some p->∃u,us[j]?=some u/\VP g.I w p u)
  (h:K8 L s elem i x row=some (v,s')) :
  ∃b cap vz e fz w1 wv g',
   (Builtin.append_ #[t,t] T #[xv,yv]).run E.P w=.ok (.slice (some ⟨b,0,none⟩) (rows.length+1) cap) w1 /\
   V g' wv v (.slice (some ⟨b,0,none⟩) (rows.length+1) cap)/\Ext L g w g' wv/\Inv E g' wv s' /\
   wv.heap[b]?=some (.cells ⟨CL vz (rows.length*i.size) us⟩ e fz)/\w1=BO wv b vz e fz/\(rows.length*i.size+us.length<=vz.length/\fz.2<=rows.length*i.size) /\
   (∃k l,g'.tok k=some l/\l.b=b):=by
 obtain⟨AOM,G7,yb,yo,ysz,yf,rfl,AdB,AYf⟩:=Ef hy hyr;obtain⟨zs,hzf,_,ADS⟩:=AYf.XP (k:=i.size) hk AB G7;have AGn:zs.length=i.size:=by have:=hzf.len; grind
 have uT:∀u∈zs,u.oneCell'=true:=Flat.one g rfl (by rw[hzl]; omega) hzo;obtain⟨zz,hzz⟩:∃zz,zeroOf E.P elem=some zz:=by grind[zeroOf]
 obtain⟨i',zv,hi',pT,_,AGo⟩:=D7 (g:=g) (w:=w) hzz;have:i'=i:=AB;subst this;have hse:D2 E.P elem=some i'.size:=by grind[D2]
 have hzs:zv.cells.size=i'.size:=by rw[<-IW,<-AGo.len]; grind
 have hn:(Builtin.lenOf (.slice AOM [z].length G7)).run E.P w=.ok 1 w:=b9 _ _ _;have hd:∀k,TypeDesc.slice elem≠.int k:=λk e=>by grind
 have hfn:Flat g.I w [row] i'.size us:=by
  have:=Ik (k:=i'.size) (n:=1) (ps:=row) (us:=us) (I:=g.I) (w:=w) AA AA hvp
  grind[CJ]
 unfold K8 at h;split at h
 .rename_i ES
  simp[rowsOf] at lq; subst lq;split at h
  .rename_i hc
   obtain⟨Qq,Mk,hall⟩:=hc;have hl:=Lu hall;simp only[BN,BT] at h;obtain⟨rfl,rfl⟩:=h;cases hx with
   | @AE _ base b o sz f hr=>
    obtain⟨os,hfo,_,Ts⟩:=hr.XP hk hl ES.length;obtain⟨HT,rest,OU,Sg,hrun⟩:=run_append_grow (base:=base) (sCap:=ES.length) T [] ht hi ht hd hn (ADS E.P (Bd w) rfl) (Ts E.P (Bd w) rfl) pT AA Qq Mk;obtain⟨e1,i1⟩:=hI.drew (L:=L);have uO:=hfo.append hfn
    have iU:(os++us++rest).length=HT*i'.size:=by
     simp only[Bo,hfo.len,hus,Sg,hzs];rw[show ES.length*i'.size+i'.size=(ES.length+1)*i'.size by grind,<-EO];rw[show ES.length+1+(HT-(ES.length+1))=HT by omega]
    obtain⟨e3,i3⟩:=i1.lf (L:=L) (t:=s.ts.length) (n:=ES.length+1) (e:=elem) iU OU hk hse (.inl ⟨rfl,rfl⟩);have hrl:(ES++[row]).length=ES.length+1:=AD;refine⟨w.heap.size,HT,os++zs++rest,elem,(0,0),_,Cf (Bd w) (os++us++rest) elem,_,hrun,?_,e1.trans e3,i3,?_,?_,?_,s.ts.length,⟨(Bd w).heap.size,HT,i'.size,ES.length+1,elem⟩,by simp[AP.Gj],rfl⟩
    .have hV:=HH (g:=g.Gj s.ts.length ⟨(Bd w).heap.size,HT,i'.size,ES.length+1,elem⟩) (w:=Cf (Bd w) (os++us++rest) elem) (t:=s.ts.length) (b:=(Bd w).heap.size) (cap:=HT) (e:=elem)
      (by simp[AP.Gj]) (uO.mono (e1.trans e3).mono (e1.trans e3).cell) hrl OU (λo ho=>.inr ⟨rfl,ho⟩) (λq u hq=>by
       rw[Bw (by rw[CM]; exact if_pos rfl),CX (DF hq)]; omega)
     rw[hrl] at hV;exact hV
    .rw[CM,if_pos (show w.heap.size=(Bd w).heap.size from rfl),<-hfo.len,Tw zs us AA]
    .grind[Gn,Bd]
    .exact⟨by simp[hfo.len,AGn,hus],AO _⟩
  grind
 .rename_i k ES
  simp[rowsOf] at lq; subst lq;split at h
  .rename_i hc
   obtain⟨Qq,Mk,hts,El,hall⟩:=hc;have hl:=Lu hall;simp only[BN,BT] at h;obtain⟨rfl,rfl⟩:=h;have hrl:(ES++[row]).length=ES.length+1:=AD;cases hx with
   | @own _ _ base b o sz cap f l hr hcap XQ Nk hf=>
    obtain⟨l',ZR,Sd,AYY⟩:=hI.G4 k _ _ hts;have:l'=l:=AB;subst this;obtain⟨rfl,rfl,rfl,rfl,rfl⟩:=hf Sd.symm;obtain⟨os,hfo,hco,Ts⟩:=hr.XP hk hl l'.cap;have uO:=hfo.append hfn;obtain⟨vs,fz,hh,AYa,hnc,hsz,hfz,hsl⟩:=hI.tok k l' XQ;have iV:l'.sz=i'.size:=AB
    by_cases hroom:ES.length+1<=l'.cap
    .have hbd:l'.n*l'.sz+i'.size<=vs.length:=by
      have:=B5 i'.size hroom
      grind
     have hst:=Ff (P:=E.P) (b:=l'.b) (o:=l'.n*l'.sz) (e:=l'.e) hfz zs 0 w vs uT hh AA;obtain⟨e3,i3⟩:=hI.ADQ (L:=L) (n:=ES.length+1) (us:=us) XQ hh AA hroom El;have i3':Inv E (g.Gj k { l' with n:=ES.length+1 }) (BO w l'.b (CL vs (l'.n*l'.sz) us) l'.e fz) { s with ts:=s.ts.set k (ES.length+1,elem) }:=AB;refine⟨l'.b,l'.cap,CL vs (l'.n*l'.sz) zs,l'.e,fz,BO w l'.b (CL vs (l'.n*l'.sz) zs) l'.e fz,BO w l'.b (CL vs (l'.n*l'.sz) us) l'.e fz,_,?_,?_,e3,i3',?_,?_,?_,k,{ l' with n:=ES.length+1 },by simp[AP.Gj],rfl⟩
     .simp_all[run_append_room,DT]
     .have hV:=HH (g:=g.Gj k { l' with n:=ES.length+1 }) (w:=BO w l'.b (CL vs (l'.n*l'.sz) us) l'.e fz) (t:=k) (b:=l'.b) (cap:=l'.cap) (sz:=l'.sz) (e:=l'.e)
       (by simp[AP.Gj]) (Flat.AOL iV.symm (uO.mono e3.mono e3.cell)) hrl hroom (λo ho=>.inr ⟨rfl,ho⟩) (λq u hq=>by
        rw[Bw (by rw[Bj,if_pos rfl,if_pos (hI.Hg XQ)])];rcases Fq q os.length with x|x
        .rw[CX x] at hq
         have:=(hco q u hq).2;rw[Bw hh,CI] at this;rw[Fg us vs _ _ (.inl (by rw[Sd,iV,<-hfo.len]; exact x))];omega
        .rw[Ey x] at hq
         have:=HG us vs (l'.n*l'.sz) _ u hq AA;rw[Sd,iV,<-hfo.len,show os.length+(q-os.length)=q by omega] at this;rw[Sd,iV,<-hfo.len];omega)
      grind
     .grind[Bj,XU]
     .exact Ea.symm
     grind[Bp]
    .obtain⟨HT,rest,OU,Sg,hrun⟩:=run_append_grow (base:=some ⟨l'.b,0,none⟩) (sCap:=l'.cap) T [] ht hi ht hd hn (ADS E.P (Bd w) rfl) (Ts E.P (Bd w) rfl) pT AA Qq Mk
     obtain⟨e1,i1⟩:=hI.drew (L:=L)
     have iU:(os++us++rest).length=HT*i'.size:=by
      simp only[Bo,hfo.len,hus,Sg,hzs];rw[show ES.length*i'.size+i'.size=(ES.length+1)*i'.size by grind,<-EO];rw[show ES.length+1+(HT-(ES.length+1))=HT by omega]
     obtain⟨e3,i3⟩:=i1.lf (L:=L) (t:=k) (n:=ES.length+1) (e:=elem) iU OU hk hse (.inr ⟨l',XQ,AA,El,rfl⟩);refine⟨w.heap.size,HT,os++zs++rest,elem,(0,0),_,Cf (Bd w) (os++us++rest) elem,_,hrun,?_,e1.trans e3,i3,?_,?_,?_,k,⟨(Bd w).heap.size,HT,i'.size,ES.length+1,elem⟩,by simp[AP.Gj],rfl⟩
     .have hV:=HH (g:=g.Gj k ⟨(Bd w).heap.size,HT,i'.size,ES.length+1,elem⟩) (w:=Cf (Bd w) (os++us++rest) elem) (t:=k) (b:=(Bd w).heap.size) (cap:=HT) (e:=elem)
       (by simp[AP.Gj]) (uO.mono (e1.trans e3).mono (e1.trans e3).cell) hrl OU (λo ho=>.inr ⟨rfl,ho⟩) (λq u hq=>by
        rw[Bw (by rw[CM]; exact if_pos rfl),CX (DF hq)]; omega)
      rw[hrl] at hV;exact hV
     .rw[CM,if_pos (show w.heap.size=(Bd w).heap.size from rfl),<-hfo.len,Tw zs us AA]
     .grind[Gn,Bd]
     .exact⟨by simp[hfo.len,AGn,hus],AO _⟩
  grind
 grind
theorem iZ {E:Env} {L:BI} {g:AP} {w:World} {s:AQ} (hI:Inv E g w s) {t elem T:TypeId} {i:TypeInfo} {y:AV} {xv yv:Value} {id len:Nat} {old zs cells:List AV} {us:List Value}
  (ht:E.P.underlying t=some (.slice elem)) (hi:E.P.info? elem=some i) (hk:i.size≠0) (hze:(zeroOf E.P elem).map List.length=some i.size)
  (hx:V g w (.ref id 0 len i.size) xv) (hy:V g w y yv) (hzs:Cz s i.size y=some zs) (hzl:zs.length=i.size) (hzo:zs.all A7=true)
  (hold:s.bs[id]?=some old) (hlo:len*i.size<=old.length) (hal:Tel.alive s id=true) (Qq:(len+1)*i.bytes<=2 ^ 45) (Mk:len+1<=2 ^ 45) (hro:L.ro<=id)
  (hus:us.length=i.size) (hvl:VL g w cells us) :
  ∃b cap vz e fz w1 wv g',
   (Builtin.append_ #[t,t] T #[xv,yv]).run E.P w=.ok (.slice (some ⟨b,0,none⟩) (len+1) cap) w1 /\
   V g' wv (.ref s.bs.length 0 (len+1) i.size) (.slice (some ⟨b,0,none⟩) (len+1) cap)/\Ext L g w g' wv/\Inv E g' wv { s with bs:=s.bs.set id []++[old.take (len*i.size)++cells] } /\
   wv.heap[b]?=some (.cells ⟨CL vz (len*i.size) us⟩ e fz)/\w1=BO wv b vz e fz/\(len*i.size+us.length<=vz.length/\fz.2<=len*i.size) /\
   g'.blk s.bs.length=some b:=by
 obtain⟨zz,hzz⟩:∃zz,zeroOf E.P elem=some zz:=by grind[zeroOf]
 obtain⟨i',zv,hi',pT,_,AGo⟩:=D7 (g:=g) (w:=w) hzz;have:i'=i:=AB;subst this;have AYg:zv.cells.size=i'.size:=by rw[<-IW,<-AGo.len]; grind
 obtain⟨n,zsv,hn,E6,hfc,ADT⟩:=Js hI hy hk hzs
 have hn1:n=1:=by
  rw[hzl] at E6;exact(Nat.eq_of_mul_eq_mul_right (Nat.pos_of_ne_zero hk) AA).symm
 subst hn1;have uT:∀u∈zsv,u.oneCell'=true:=ADT.one hzo;have AGn:zsv.length=i'.size:=by rw[<-ADT.len]; omega
 have hcells:cells.length=i'.size:=by rw[hvl.len]; omega
 have hd:∀k,TypeDesc.slice elem≠.int k:=λk e=>by grind
 cases hx with
 | JQ hd=>exact absurd hd (hI.alive hal)
 | @ref _ _ _ _ b cap n' e Il hcap hs hn'=>
  obtain⟨cs',vs,e',k1,k2,kle,k3⟩:=hI.blk id b Il;rw[hold] at k1; simp only[BN] at k1; subst k1;have hsh:vs.length=n':=by rw[Bx k2] at hs; grind
  have k4:VL g w (old.take (len*i'.size)) (vs.take (len*i'.size)):=by
   have:=k3.take (len*i'.size)
   grind
  have WQ:(old.take (len*i'.size)).length=len*i'.size:=AB
  by_cases hroom:len+1<=cap
  .have hbd:len*i'.size+us.length<=vs.length:=by
    have:=B5 i'.size hroom
    grind
   have hst:=F4 (P:=E.P) (b:=b) (o:=len*i'.size) (e:=e') zsv 0 w vs uT k2 AA
   obtain⟨e1,e2⟩:=hI.uN (L:=L) (cs':=old.take (len*i'.size)++cells) (vs':=CL vs (len*i'.size) us) Il k2 (Bp _ _ _) hro
    (by grind[Bp])
    (by rw[Bo,WQ,hvl.len,LF us vs _ hbd]; exact k4.append hvl)
   refine⟨b,cap,CL vs (len*i'.size) zsv,e',(0,0),BO w b (CL vs (len*i'.size) zsv) e',BO w b (CL vs (len*i'.size) us) e',_,?_,V.ref (b:=b) (e:=e') (n:=n') ?_ hroom ?_ hn',e1,e2,?_,?_,?_,?_⟩
   .simp[*,run_append_room,DT]
   .simp[AP.F5]
   .grind[Bx,Bj,Bp]
   .grind[Bj,XU]
   .exact Ea.symm
   all_goals grind[Bp,AP.F5]
  .have hvt:(vs.take (len*i'.size)).length=len*i'.size:=by grind
   have hos:(Builtin.firstCells i'.size len (.slice (some ⟨b,0,none⟩) len cap)).run E.P (Bd w)=.ok (List.toArray (vs.take (len*i'.size))) (Bd w):=by grind[Builtin.firstCells,Ep,Bd,Bw]
   obtain⟨HT,rest,OU,Sg,hrun⟩:=run_append_grow (base:=some ⟨b,0,none⟩) (sCap:=cap) T [] ht hi ht hd hn (hfc (Bd w) rfl) hos pT AA Qq Mk;obtain⟨e1,i1⟩:=hI.drew (L:=L);obtain⟨e2,i2⟩:=i1.kill (L:=L) Il hro;have hpre:(old.take (len*i'.size)++cells).length<=(vs.take (len*i'.size)++us++rest).length:=AB
   have XQ:(vs.take (len*i'.size)++us++rest).take (old.take (len*i'.size)++cells).length=vs.take (len*i'.size)++us:=by
    rw[S5 AB]
   obtain⟨e3,i3⟩:=i2.Tl (L:=L) (cs:=old.take (len*i'.size)++cells) (vs:=vs.take (len*i'.size)++us++rest) elem hpre (by rw[XQ]; exact((k4.append hvl).mono e1).mono e2);have hl:({ s with bs:=s.bs.set id [] }:AQ).bs.length=s.bs.length:=AD;refine⟨w.heap.size,HT,vs.take (len*i'.size)++zsv++rest,elem,(0,0),_,Cf (Bd w) (vs.take (len*i'.size)++us++rest) elem,_,hrun,?_,(e1.trans e2).trans e3,i3,?_,?_,?_,?_⟩
   .refine V.ref (b:=w.heap.size) (e:=elem) (n:=(vs.take (len*i'.size)++us++rest).length) ?_ OU ?_ ?_
    .simp[AP.F5,Bd]
    .exact Bx (by rw[CM]; exact if_pos rfl)
    .simp only[Bo,hvt,hus,Sg,AYg]
     have h1:len*i'.size+i'.size=(len+1)*i'.size:=AB;rw[h1,<-EO]
     grind
   all_goals grind[CM,Bd,Tw,Gn,AP.F5]
theorem Zm {w:World} {b b':Nat} {vs us:List Value} {e e':TypeId} {fz fz':Nat×Nat} (h:b≠b'):BO (BO w b vs e fz) b' us e' fz'=BO (BO w b' us e' fz') b vs e fz:=by
 refine Jd ?_ rfl rfl rfl rfl;exact Array.setIfInBounds_comm _ _ h
theorem ia {E:Env} {L:BI} {g:AP} {w:World} {s s':AQ} (hI:Inv E g w s) {t:TypeId} {a x:AV} {av xv:Value}
  (ha:V g w a av) (hx:V g w x xv) (h:OP E L s t a x=some s') :
  ∃id b vs e,(∃off,a=.ptr id off)/\g.blk id=some b/\Ext L g w g (BO w b vs e)/\Inv E g (BO w b vs e) s' /\
   ∀w2:World,w2.heap[b]?=w.heap[b]?->(Instr.storeAt t av xv).run E.P w2=.ok () (BO w2 b vs e):=by
 unfold OP at h;split at h
 .rename_i id off i hi
  split at h
  .rename_i cs hcs
   simp only at h;split at h
   .rename_i hc
    obtain⟨h1,h2,h3,h4,_,uK⟩:=hc;simp at h; subst h;simp only[Rp] at hcs;cases ha with
    | Ls hd=>
     have:=hI.Dq id hd
     grind
    | @ptr _ _ b hb=>
     obtain⟨cs',vs,e,k1,k2,kle,k3⟩:=hI.blk id b hb;rw[hcs] at k1; simp at k1; subst k1;have hv:=Eo hx h4;have hone:∀u∈xv.cells.toList,u.oneCell'=true:=VL.one hv h4;have hlen:xv.cells.size=i.size:=by rw[<-IW,<-hv.len]; omega
     obtain⟨q1,q2⟩:=hI.putRow (L:=L) (vs':=CL vs off xv.cells.toList) (cs':=setCells cs off (cellsOf x)) hb k2 (Bp _ _ _) h3 (by grind[Fe,Bp]) (by grind[Fe,XN,VL.setCells]);refine⟨id,b,_,e,⟨off,rfl⟩,hb,q1,q2,λw2 tP=>?_⟩;simp only[Instr.storeAt,Instr.sureAddr,storeVar,Sem.run_bind,Sem.run_pure,Result.andThen_ok,run_sizeOf hi,hlen,ne_eq,not_true_eq_false,JG];have:=F4 (P:=E.P) (b:=b) (o:=off) (e:=e) xv.cells.toList 0 w2 vs hone (tP.trans k2) AB;omega
   grind
  grind
 grind
theorem uU {E:Env} {L:BI} {g:AP} {w:World} {s:AQ} {U:Nat->AV} {a:Act} {o:Oper} {v:AV} (ho:(∃x,o.op=.nilCheck x)\/(∃t x f,o.op=.fieldAddr t x f)\/(∃x,o.op=.move x))
  (hI:Inv E g w s) (hU:∀t,V g w (U t) (a.tmps.getD t undef)) (h:Jm E L U s o=some v) :
  ∃v',(∀w2:World,(execOp a.eval o).run E.P w2=.ok (.value v') w2)/\V g w v v':=by
 have h:=Tu h;obtain⟨dst,op,type,pos,after,guard⟩:=o;rcases ho with ⟨x,rfl⟩|⟨t,x,f,rfl⟩|⟨x,rfl⟩
 .simp only[Cl] at h
  split at h
  .rename_i u hu
   simp at h; subst h;exact Mn _ rfl hI hU hu
  grind
 .simp only[Cl] at h
  split at h
  .rename_i u hu
   simp at h; subst h;obtain⟨v',hr,hv⟩:=LD hI (Aw hU x) hu;simp[*,execOp]
  grind
 .simp only[Cl,BN,BT] at h
  obtain⟨rfl,_⟩:=h
  simp_all[execOp,Aw]
structure We (E:Env) (L:BI) (cf:Cu) (ops:Array Oper) (p:Bl) (K N:Nat) (U0 Uf:Nat->AV) (σ:Nat->AQ):Prop where
 ABK:∀(i:Nat) o e,ops[i]?=some o->e∈o.after->Region.binds .any e=true->e.on<i
 pre:∀(i:Nat) o j,ops[i]?=some o->j∈D3 p i->∃e,e∈o.after/\Region.binds .any e=true/\(e.on=j\/j∈D3 p e.on)
 cls:∀(i:Nat) o,ops[i]?=some o->∃c,p.cls[i]?=some c
 dst:∀(i j:Nat) oi oj d,ops[i]?=some oi->ops[j]?=some oj->oi.dst=some d->oj.dst=some d->i=j
 read:∀(i j:Nat) oi oj d,ops[i]?=some oi->ops[j]?=some oj->oj.dst=some d->d∈HI ops oi++GQ oi ->
  (has (Hx p.GI i) d=true/\(j=i\/i∈D3 p j))\/(has (Hx p.GI i) d=false/\j∈D3 p i)
 rk:∀(i j:Nat) oi oj r r',ops[i]?=some oi->ops[j]?=some oj->FM p i=some r->FM p j=some r'->r<r'->i∈D3 p j
 ADU:∀(i j:Nat) oi oj r,ops[i]?=some oi->ops[j]?=some oj->FM p i=some r->FM p j=some r->i=j
 AGp:∀k,k<K->∃(i:Nat) (o:Oper),ops[i]?=some o/\FM p i=some k
 AGq:∀(i:Nat) o r,ops[i]?=some o->FM p i=some r->r<K
 time:∀(i:Nat) o ts,ops[i]?=some o->(p.cls[i]?=some (.q ts)\/p.cls[i]?=some (.h ts))->∀k,k<=K->k∉ts ->
  ∃(j:Nat) (oj:Oper) (r:Nat),ops[j]?=some oj/\FM p j=some r/\((j∈D3 p i/\k<=r)\/(i∈D3 p j/\r<k))
 uV:∀(i:Nat) o r (j x:Nat),ops[i]?=some o->p.cls[i]?=some (.fa r j x)->∃o1 o2 k,ops[j]?=some o1/\ops[x]?=some o2/\p.cls[j]?=some .fj/\p.cls[x]?=some .fx/\fused o o1 o2=some k /\
  Hx p.GI i=[]/\Hx p.GI j=[]/\Hx p.GI x=[]/\i∈D3 p j/\j∈D3 p x/\i∈D3 p x /\
  ∃v,K9 E L Uf (σ r) k=some (v,σ (r+1))/\Uf k.d=v/\Uf k.p=.Gm
 win:∀(i:Nat) o r (j x:Nat),ops[i]?=some o->p.cls[i]?=some (.fa r j x)->∀(m:Nat) om,ops[m]?=some om->m≠i->m≠j->m≠x ->
  (m∈D3 p i\/x∈D3 p m\/Zf ops p m=true)/\∀d,om.dst=some d->(d∈D8 ops j\/d∈D8 ops x)->m∈D3 p i
 mu:∀(i:Nat) o r (j x d FV off len sz:Nat),Qm E L ops i j x=true->ops[i]?=some o->p.cls[i]?=some (.fa r j x)->o.dst=some d->Uf d=.ref FV off len sz->∀(m:Nat) om r' t y z,ops[m]?=some om->p.cls[m]?=some (.w r')->om.op=.store t y z ->
  ∀id off',Am (Fw p.GI U0 Uf m) y=.ptr id off'->id≠FV
 AON:∀(j:Nat) oj,ops[j]?=some oj->p.cls[j]?=some .fj->∃(i:Nat) (o:Oper) (r x:Nat),ops[i]?=some o/\p.cls[i]?=some (.fa r j x)
 AOO:∀(x:Nat) ox,ops[x]?=some ox->p.cls[x]?=some .fx->∃(i:Nat) (o:Oper) (r j:Nat),ops[i]?=some o/\p.cls[i]?=some (.fa r j x)
 out:∀t,(∀(i:Nat) o,ops[i]?=some o->o.dst≠some t)->Uf t=U0 t
 uW:∀(i:Nat) o d,ops[i]?=some o->o.dst=some d->d<N
 wF:∀(i:Nat) o r,ops[i]?=some o->p.cls[i]?=some (.w r)->∃v,OS E L cf ops (Fw p.GI U0 Uf i) (σ r) o=some (v,σ (r+1))/\∀d,o.dst=some d->Uf d=v
 qF:∀(i:Nat) o ts k,ops[i]?=some o->p.cls[i]?=some (.q ts)->k∈ts->∃v,FU E L ops (Fw p.GI U0 Uf i) (σ k) o=some v/\∀d,o.dst=some d->Uf d=v
 hF:∀(i:Nat) o ts,ops[i]?=some o->p.cls[i]?=some (.h ts)->o.guard=none/\∃d cs mk id,o.dst=some d/\hcells E (Fw p.GI U0 Uf i) o=some (cs,mk)/\Uf d=mk id/\∀k∈ts,(σ k).bs[id]?=some cs
 AOP:∀(i j:Nat) oi oj ts us d e id,ops[i]?=some oi->ops[j]?=some oj->p.cls[i]?=some (.h ts)->p.cls[j]?=some (.h us)->oi.dst=some d->oj.dst=some e->KN (Uf d)=some id->KN (Uf e)=some id->i=j
section
variable {E:Env} {L:BI} {cf:Cu} {ops:Array Oper} {p:Bl} {K N:Nat} {U0 Uf:Nat->AV} {σ:Nat->AQ}
theorem We.uX (R:We E L cf ops p K N U0 Uf σ):∀i o j,ops[i]?=some o->j∈D3 p i->j<i:=by
 intro i
 induction i using Nat.strongRecOn with
 | ind i ih=>
  intro o j ho hj;obtain⟨e,he,hb,h⟩:=R.pre i o j ho hj;have hlt:=R.ABK i o e ho he hb
  grind
def Down (ops:Array Oper) (D:Nat->Prop):Prop:=∀(i:Nat) o e,ops[i]?=some o->D i->e∈o.after->Region.binds .any e=true->D e.on
theorem We.Lx (R:We E L cf ops p K N U0 Uf σ) {D:Nat->Prop} (hD:Down ops D):∀i o j,ops[i]?=some o->(∀e∈o.after,Region.binds .any e=true->D e.on)->j∈D3 p i->D j:=by
 intro i
 induction i using Nat.strongRecOn with
 | ind i ih=>
  intro o j ho hr hj;obtain⟨e,he,hb,h⟩:=R.pre i o j ho hj;have hlt:=R.ABK i o e ho he hb;have hde:=hr e he hb;rcases h with rfl|h
  .omega
  .obtain⟨oe,hoe⟩:∃oe,ops[e.on]?=some oe:=⟨ops[e.on]'(AB),AD⟩
   exact ih e.on hlt oe j hoe (λe' he' hb'=>hD e.on oe e' hoe hde he' hb') h
theorem We.Mo (R:We E L cf ops p K N U0 Uf σ) {D:Nat->Prop} (hD:Down ops D) {i j:Nat} {o:Oper} (ho:ops[i]?=some o) (hi:D i) (hj:j∈D3 p i):D j:=
 R.Lx hD i o j ho (λe he hb=>hD i o e ho hi he hb) hj
open Classical in
noncomputable def rho (ops:Array Oper) (U0 Uf:Nat->AV) (D:Nat->Prop) (t:Nat):AV:=if ∃(i:Nat) (o:Oper),ops[i]?=some o/\o.dst=some t/\D i then Uf t else U0 t
theorem Tx {D:Nat->Prop} {t i:Nat} {o:Oper} (ho:ops[i]?=some o) (hd:o.dst=some t) (hi:D i):rho ops U0 Uf D t=Uf t:=if_pos ⟨i,o,ho,hd,hi⟩
theorem TM {D:Nat->Prop} {t:Nat} (h:∀(i:Nat) (o:Oper),ops[i]?=some o->o.dst=some t->¬ D i):rho ops U0 Uf D t=U0 t:=if_neg (λ⟨i,o,ho,hd,hi⟩=>h i o ho hd hi)
theorem We.Tz (R:We E L cf ops p K N U0 Uf σ) {D:Nat->Prop} {t:Nat} (h:∀(i:Nat) (o:Oper),ops[i]?=some o->o.dst≠some t):rho ops U0 Uf D t=Uf t:=by
 rw[TM (λi o ho hd=>absurd hd (h i o ho)),R.out t h]
theorem We.agree (R:We E L cf ops p K N U0 Uf σ) {D:Nat->Prop} (hD:Down ops D) {i:Nat} {o:Oper} (ho:ops[i]?=some o) (hn:¬ D i) (hr:∀e∈o.after,Region.binds .any e=true->D e.on) :
  ∀t∈HI ops o++GQ o,rho ops U0 Uf D t=Fw p.GI U0 Uf i t:=by
 intro t ht;unfold Fw
 by_cases hw:∃(j:Nat) (oj:Oper),ops[j]?=some oj/\oj.dst=some t
 .obtain⟨j,oj,uY,uZ⟩:=hw
  rcases R.read i j o oj t ho uY uZ ht with ⟨h1,h2⟩|⟨h1,h2⟩
  .rw[h1,AN]
   refine TM λk ok hok hdk hDk=>?_
   have:k=j:=R.dst k j ok oj t hok uY hdk uZ;subst this;rcases h2 with rfl|h2
   .grind
   .exact hn (R.Mo hD hok hDk h2)
  .rw[h1,AL]
   exact Tx uY uZ (R.Lx hD i o j ho hr h2)
 .have hno:∀(j:Nat) (oj:Oper),ops[j]?=some oj->oj.dst≠some t:=λj oj uY uZ=>hw ⟨j,oj,uY,uZ⟩
  rw[R.Tz hno];cases has (Hx p.GI i) t with
  | true=>rw[AN,R.out t hno]
  | false=>rfl
end
def Open (P:Program) (q:AV) (X:Prop) (kf:JO) (Dj:Prop) (a:Act) (g:AP) (w wv:World):Prop:=
 ∃(b cap len:Nat) (vz:List Value) (e:TypeId) (fz:Nat×Nat) (xv:Value) (kk:IntKind) (elem:TypeId) (ti:TypeInfo),
  P.underlying kf.t=some (.slice elem)/\P.info? elem=some ti/\kf.te=elem /\
  a.eval (.tmp kf.d)=.slice (some ⟨b,0,none⟩) (len+1) cap/\a.eval kf.ix=.int kk (len:Int)/\a.eval kf.v=xv/\xv.cells.size=ti.size/\(∀u∈xv.cells.toList,u.oneCell'=true) /\
  wv.heap[b]?=some (.cells ⟨CL vz (len*ti.size) xv.cells.toList⟩ e fz)/\w=BO wv b vz e fz/\(len*ti.size+ti.size<=vz.length/\fz.2<=len*ti.size)/\((∃k l,g.tok k=some l/\l.b=b)\/∃FV off n sz,q=.ref FV off n sz/\g.blk FV=some b/\X) /\
  (Dj->a.eval (.tmp kf.p)=.pointer (some ⟨b,len*ti.size,none⟩))
def N3 (ops:Array Oper) (p:Bl) (D:Nat->Prop) (i:Nat):Prop:=∀(i':Nat) o' r' (j' x':Nat),ops[i']?=some o'->p.cls[i']?=some (.fa r' j' x')->D i'->i'≠i->D x'
def Window (E:Env) (L:BI) (Uf:Nat->AV) (ops:Array Oper) (p:Bl) (D:Nat->Prop) (a:Act) (g:AP) (w wv:World):Prop:=
 (w=wv/\∀i,N3 ops p D i) \/
 ∃(i:Nat) (o:Oper) (r j x:Nat) (o1 o2:Oper) (kf:JO),ops[i]?=some o/\p.cls[i]?=some (.fa r j x)/\ops[j]?=some o1/\ops[x]?=some o2/\fused o o1 o2=some kf/\D i/\¬ D x /\
  N3 ops p D i/\Open E.P (Uf kf.d) (Qm E L ops i j x=true) kf (D j) a g w wv
structure Core (E:Env) (L:BI) (ops:Array Oper) (p:Bl) (K N:Nat) (U0 Uf:Nat->AV) (σ:Nat->AQ) (ds:List Deferred) (g0:AP) (w0:World) (D:Nat->Prop) (a:Act) (k:Nat) (g:AP) (wv:World):Prop where
 kK:k<=K
 time:∀(i:Nat) o r,ops[i]?=some o->FM p i=some r->(D i<->r<k)
 size:a.tmps.size=N
 defers:a.defers=ds
 ext:Ext L g0 w0 g wv
 inv:Inv E g wv (σ k)
 tmps:∀t,V g wv (rho ops U0 Uf D t) (a.tmps.getD t undef)
 DM:∀(i:Nat) o ts d id,ops[i]?=some o->p.cls[i]?=some (.h ts)->o.dst=some d->KN (Uf d)=some id->¬ D i->g.DM id
def J (E:Env) (L:BI) (ops:Array Oper) (p:Bl) (K N:Nat) (U0 Uf:Nat->AV) (σ:Nat->AQ) (ds:List Deferred) (g0:AP) (w0:World) (D:Nat->Prop) (a:Act) (w:World):Prop:=
 ∃k g wv,Core E L ops p K N U0 Uf σ ds g0 w0 D a k g wv/\Window E L Uf ops p D a g w wv
theorem T5 (a:Act) (d:Option Tmp) (v:Value):(a.put d v).tmps.size=a.tmps.size:=by cases d <;> simp[Act.put]
theorem put_defers (a:Act) (d:Option Tmp) (v:Value):(a.put d v).defers=a.defers:=by cases d <;> rfl
theorem Ju {a:Act} {d:Nat} {v:Value} (h:d<a.tmps.size):(a.put (some d) v).tmps.getD d undef=v:=by simp[Act.put,h]
theorem Qv {a:Act} {d:Option Tmp} {v:Value} {t:Nat} (h:d≠some t):(a.put d v).tmps.getD t undef=a.tmps.getD t undef:=by
 cases d with
 | none=>rfl
 | some d=>
  simp_all[Act.put]
section
variable {E:Env} {L:BI} {cf:Cu} {ops:Array Oper} {p:Bl} {K N:Nat} {U0 Uf:Nat->AV} {σ:Nat->AQ} {ds:List Deferred} {g0:AP} {w0:World}
theorem Core.push (R:We E L cf ops p K N U0 Uf σ) {D:Nat->Prop} {a:Act} {k k':Nat} {g g':AP} {wv wv':World} (h:Core E L ops p K N U0 Uf σ ds g0 w0 D a k g wv) {m:Nat} {om:Oper} (hm:ops[m]?=some om)
  (hk:(FM p m=none/\k'=k)\/(FM p m=some k/\k'=k+1)) (AOQ:Ext L g0 w0 g' wv') (hmono:∀x u,V g wv x u->V g' wv' x u) (hinv:Inv E g' wv' (σ k')) {v':Value}
  (hv:∀d,om.dst=some d->V g' wv' (Uf d) v')
  (AOR:∀(i:Nat) o ts d id,ops[i]?=some o->p.cls[i]?=some (.h ts)->o.dst=some d->KN (Uf d)=some id->¬ D i->i≠m->g'.DM id) :
  Core E L ops p K N U0 Uf σ ds g0 w0 (λi=>D i\/i=m) (a.put om.dst v') k' g' wv' where
 kK:=by
  rcases hk with ⟨_,rfl⟩|⟨h1,rfl⟩
  .exact h.kK
  .exact R.AGq m om k hm h1
 time:=λi o r ho hr=>by
  have ht:=h.time i o r ho hr;rcases hk with ⟨h1,rfl⟩|⟨h1,rfl⟩
  .grind
  .by_cases hi:i=m
   .grind
   .have:r≠k:=λe=>hi (R.ADU i m o om r ho hm hr (e ▸ h1))
    grind
 size:=by rw[T5]; exact h.size
 defers:=by rw[put_defers]; exact h.defers
 ext:=AOQ
 inv:=hinv
 tmps:=λt=>by
  by_cases ht:om.dst=some t
  .rw[Tx hm ht (.inr rfl),ht,Ju (by rw[h.size]; exact R.uW m om t hm ht)]
   grind
  .rw[Qv ht]
   have:rho ops U0 Uf (λi=>D i\/i=m) t=rho ops U0 Uf D t:=by
    by_cases hx:∃(i:Nat) (o:Oper),ops[i]?=some o/\o.dst=some t/\D i
    all_goals grind[Tx,TM]
   rw[this];exact hmono _ _ (h.tmps t)
 DM:=λi o ts d id ho hc hd hid hn=>AOR i o ts d id ho hc hd hid (λx=>hn (.inl x)) (λx=>hn (.inr x))
theorem Core.now (R:We E L cf ops p K N U0 Uf σ) {D:Nat->Prop} {a:Act} {k:Nat} {g:AP} {wv:World} (h:Core E L ops p K N U0 Uf σ ds g0 w0 D a k g wv) (hD:Down ops D) {m r:Nat} {om:Oper} (hm:ops[m]?=some om) (hn:¬ D m)
  (hr:∀e∈om.after,Region.binds .any e=true->D e.on) (cG:FM p m=some r):r=k:=by
 have h1:k<=r:=by
  rcases Fq r k with x|x
  .exact absurd ((h.time m om r hm cG).2 x) hn
  omega
 rcases Fq k r with x|x
 .obtain⟨i,o,ho,hi⟩:=R.AGp k (by have:=R.AGq m om r hm cG; omega)
  have:=(h.time i o k ho hi).1 (R.Lx hD m om i hm hr (R.rk i m o om k r ho hm hi cG x));omega
 omega
theorem Core.ua (R:We E L cf ops p K N U0 Uf σ) {D:Nat->Prop} {a:Act} {k:Nat} {g:AP} {wv:World} (h:Core E L ops p K N U0 Uf σ ds g0 w0 D a k g wv) (hD:Down ops D) {m:Nat} {om:Oper} {ts:List Nat} (hm:ops[m]?=some om) (hn:¬ D m)
  (hr:∀e∈om.after,Region.binds .any e=true->D e.on) (hc:p.cls[m]?=some (.q ts)\/p.cls[m]?=some (.h ts)):k∈ts:=by
 rcases Classical.em (k∈ts) with x|x
 .exact x
 .obtain⟨j,oj,r,uY,cG,h1|h1⟩:=R.time m om ts hm hc k h.kK x
  .have:=(h.time j oj r uY cG).1 (R.Lx hD m om j hm hr h1.1)
   omega
  .exact absurd (R.Mo hD uY ((h.time j oj r uY cG).2 h1.2) h1.1) hn
theorem N3.more {D:Nat->Prop} {m i:Nat} {om:Oper} (hm:ops[m]?=some om) (hnf:∀r j x,p.cls[m]?≠some (.fa r j x)) (h:N3 ops p D i):N3 ops p (λi=>D i\/i=m) i:=by
 intro i' o' r' j' x' ho hc hi hne;rcases hi with hi|rfl
 .exact .inl (h i' o' r' j' x' ho hc hi hne)
 grind
end
theorem LG {rd:Option Nat} {P:Program} {ops:Array Oper} {Q:Exit->Act->World->Prop} {m:Nat} {om:Oper} {K:Act->World->Prop} {a:Act} {w:World} (hm:ops[m]?=some om)
  (hw:Region.wanted om (yielded ops a.tmps)=true) (h:om.wpIn (FW rd) 0 P a w K Q):wpOpIn (FW rd) 0 P ops Q m K a w:=by grind[wpOpIn]
theorem TN {rd:Option Nat} {P:Program} {ops:Array Oper} {Q:Exit->Act->World->Prop} {m:Nat} {om:Oper} {K:Act->World->Prop} {a:Act} {w:World} (hm:ops[m]?=some om)
  (hw:Region.wanted om (yielded ops a.tmps)=false) (h:K (a.put om.dst undef) w):wpOpIn (FW rd) 0 P ops Q m K a w:=by
 simp only[wpOpIn,hm,hw,DS,JG];exact⟨λ_ _=>trivial,h⟩
theorem Nn {rd:Option Nat} {P:Program} {ops:Array Oper} {Q:Exit->Act->World->Prop} {m:Nat} {om:Oper} {K:Act->World->Prop} {a:Act} {w w':World} {v:Value} (hm:ops[m]?=some om)
  (hg:om.guard=none) (hr:(execOp a.eval om).run P w=.ok (.value v) w') (h:K (a.put om.dst v) w'):wpOpIn (FW rd) 0 P ops Q m K a w:=
 LG hm (by grind[Region.wanted]) (Kb hr h)
theorem cH {E:Env} {L:BI} {cf:Cu} {U:Nat->AV} {s:AQ} {o:Oper} {v:AV} (h:Jm E L U s o=some v):OQ E L cf U s o=some (v,s):=by grind[Tu,PO,pO,Cl]
theorem GR {o o1 o2:Oper} {kf:JO} (h:fused o o1 o2=some kf) :
  o.op=.call { callee:=.builtin .append,args:=#[kf.x,kf.y],argTypes:=#[kf.t,kf.t] }/\o.dst=some kf.d/\o1.op=.indexAddr kf.t (.tmp kf.d) kf.ix/\o1.dst=some kf.p /\
  o2.op=.store kf.te (.tmp kf.p) kf.v/\o2.dst=none/\kf.d≠kf.p/\(o.guard=none/\o1.guard=none/\o2.guard=none)/\kf.ix≠.tmp kf.d/\kf.v≠.tmp kf.d/\kf.v≠.tmp kf.p:=by
 unfold fused at h;split at h
 .rename_i args ts d t1 d1 ix p te p1 v ho hd ho1 hd1 tQ T6
  split at h
  .rename_i x y t t' ha ht
   split at h
   .rename_i hc
    obtain⟨rfl,rfl,rfl,rfl,hne,g1,g2,g3,h1,h2,h3,_⟩:=hc;simp at h;subst h;have Np:args=#[x,y]:=by rw[<-HX (xs:=args),ha]
    have ht':ts=#[t',t']:=by rw[<-HX (xs:=ts),ht]
    subst Np ht';have hn:∀(z:Operand) (q:Nat),MP z q=false->z≠.tmp q:=λz q hz e=>by simp_all[MP]
    simp_all
   grind
  grind
 grind
theorem Rv {o o1 o2:Oper} {kf:JO} (h:fused o o1 o2=some kf):∀z,z=kf.x\/z=kf.y\/z=kf.ix\/z=kf.v->z≠.tmp kf.d/\z≠.tmp kf.p:=by
 unfold fused at h;split at h
 .split at h
  .split at h
   .rename_i hc
    obtain⟨rfl,rfl,rfl,rfl,hne,g1,g2,g3,h1,h2,h3,h4,h5,h6,h7,h8⟩:=hc;simp at h;subst h;have hn:∀(z:Operand) (q:Nat),MP z q=false->z≠.tmp q:=λz q hz e=>by simp_all[MP]
    grind
   grind
  grind
 grind
theorem Eh {a:Act} {d:Option Tmp} {v:Value} {z:Operand} (h:∀t,z=.tmp t->d≠some t):(a.put d v).eval z=a.eval z:=by
 cases z with
 | tmp t=>exact Qv (h t rfl)
 | const c=>rfl
 | global g=>rfl
 | func f=>rfl
section
variable {rd:Option Nat} {E:Env} {L:BI} {cf:Cu} {ops:Array Oper} {p:Bl} {K N:Nat} {U0 Uf:Nat->AV} {σ:Nat->AQ} {ds:List Deferred} {g0:AP} {w0:World} {Q:Exit->Act->World->Prop}
theorem Ku {m r:Nat} (h:p.cls[m]?=some (.w r)):FM p m=some r:=by grind[FM,KY]
theorem Kc {m r j x:Nat} (h:p.cls[m]?=some (.fa r j x)):FM p m=some r:=by grind[FM,KY]
theorem Qw {m:Nat} {ts:List Nat} (h:p.cls[m]?=some (.q ts)):FM p m=none:=by grind[FM,KY]
theorem ud {m:Nat} {ts:List Nat} (h:p.cls[m]?=some (.h ts)):FM p m=none:=by grind[FM,KY]
theorem lu {m:Nat} (h:p.cls[m]?=some .fj):FM p m=none:=by grind[FM,KY]
theorem lz {m:Nat} (h:p.cls[m]?=some .fx):FM p m=none:=by grind[FM,KY]
theorem We.AGs (R:We E L cf ops p K N U0 Uf σ) {D:Nat->Prop} (hD:Down ops D) {m r j x:Nat} {om:Oper} (hm:ops[m]?=some om) (hc:p.cls[m]?=some (.fa r j x)) (hr:∀e∈om.after,Region.binds .any e=true->D e.on)
  {o1 o2:Oper} {kf:JO} (h1:ops[j]?=some o1) (h2:ops[x]?=some o2) (hf:fused om o1 o2=some kf) (w1:Hx p.GI m=[]) (w2:Hx p.GI j=[]) :
  ∀z,z=kf.x\/z=kf.y\/z=kf.ix\/z=kf.v->Am Uf z=Am (rho ops U0 Uf D) z:=by
 obtain⟨f1,f2,f3,f4,f5,f6,f7,f8,f9,f10,f11⟩:=GR hf;intro z hz;refine KZ λt ht=>?_
 subst ht
 by_cases hw:∃(i:Nat) (o:Oper),ops[i]?=some o/\o.dst=some t
 .obtain⟨i,oi,Sh,pX⟩:=hw
  have hpre:i∈D3 p m:=by
   by_cases hxy:Operand.tmp t=kf.x\/Operand.tmp t=kf.y
   .have:t∈GQ om:=DZ.2 (by grind[Op.operands,Call.operands])
    rcases R.read m i om oi t hm Sh pX (JH _ this) with ⟨q1,_⟩|⟨_,q2⟩
    all_goals grind[has]
   .have hiv:Operand.tmp t=kf.ix\/Operand.tmp t=kf.v:=by grind
    by_cases e1:i=m
    .grind
    by_cases e2:i=j
    .subst e2
     rw[h1] at Sh; simp at Sh; subst Sh;rw[f4] at pX; simp at pX; subst pX;rcases hiv with e|e
     .have:kf.p∈GQ o1:=DZ.2 (by grind[Op.operands])
      rcases R.read i i o1 o1 kf.p h1 h1 f4 (JH _ this) with ⟨q1,_⟩|⟨_,q2⟩
      .grind[has]
      .exact absurd (R.uX i o1 i h1 q2) (PC _)
     grind
    by_cases e3:i=x
    .grind
    refine(R.win m om r j x hm hc i oi Sh e1 e2 e3).2 t pX ?_
    grind[D8,DZ,Op.operands]
  exact(Tx Sh pX (R.Lx hD m om i hm hr hpre)).symm
 .exact(R.Tz λi o ho hd=>hw ⟨i,o,ho,hd⟩).symm
theorem cJ (R:We E L cf ops p K N U0 Uf σ) (TL:IE E L cf) {D:Nat->Prop} (hD:Down ops D) {a:Act} {k:Nat} {g:AP} {w:World} (h:Core E L ops p K N U0 Uf σ ds g0 w0 D a k g w) (hsh:∀i,N3 ops p D i)
  (hnp:∀(i:Nat) o ts d id,ops[i]?=some o->p.cls[i]?=some (.h ts)->o.dst=some d->KN (Uf d)=some id->¬ g0.DM id)
  {m:Nat} {om:Oper} (hm:ops[m]?=some om) (hn:¬ D m) (hr:∀e∈om.after,Region.binds .any e=true->D e.on) :
  wpOpIn (FW rd) 0 E.P ops Q m (J E L ops p K N U0 Uf σ ds g0 w0 (λi=>D i\/i=m)) a w:=by
 have hag:=R.agree hD hm hn hr;obtain⟨c,hc⟩:=R.cls m om hm;have ue:(∀r j x,p.cls[m]?≠some (.fa r j x))->∀i,N3 ops p (λi=>D i\/i=m) i:=λhnf i=>N3.more hm hnf (hsh i)
 have E7:∀(g':AP),(∀id,g.DM id->g'.DM id)->∀(i:Nat) o ts d id,ops[i]?=some o->p.cls[i]?=some (.h ts)->o.dst=some d->KN (Uf d)=some id->¬ D i->i≠m->g'.DM id:=
  λg' hg i o ts d id ho Hz hd hid hnD _=>hg id (h.DM i o ts d id ho Hz hd hid hnD)
 cases c with
 | w r=>
  have hk:=h.now R hD hm hn hr (Ku hc);subst hk;obtain⟨v,hact,hv⟩:=R.wF m om r hm hc;rw[<-OX hag] at hact;unfold OS at hact;have hs:=ue (λ_ _ _ e=>by grind);split at hact
  .rename_i hg
   refine LG hm (DR h.tmps hg) (OZ TL h.inv h.tmps hact λv' w' g' hV hE hI=>?_);exact⟨r+1,g',w',h.push R hm (.inr ⟨Ku hc,rfl⟩) (h.ext.trans hE) (λ_ _ q=>q.mono hE) hI (λd hd=>by grind) (E7 g' hE.DM),.inl ⟨rfl,hs⟩⟩
  .rename_i hg
   simp only[BN,BT] at hact;obtain⟨rfl,hst⟩:=hact;refine TN hm (DR h.tmps hg) ?_;exact⟨r+1,g,w,h.push R hm (.inr ⟨Ku hc,rfl⟩) h.ext (λ_ _ q=>q) (hst ▸ h.inv) (λd hd=>by grind[V.undef]) (E7 g λ_ q=>q),.inl ⟨rfl,hs⟩⟩
  grind
 | q ts=>
  obtain⟨v,hq,hv⟩:=R.qF m om ts k hm hc (h.ua R hD hm hn hr (.inl hc));rw[<-JR hag] at hq;unfold FU at hq;have hs:=ue (λ_ _ _ e=>by grind);split at hq
  .rename_i hg
   refine LG hm (DR h.tmps hg) (OZ TL h.inv h.tmps (cH hq) λv' w' g' hV hE hI=>?_);exact⟨k,g',w',h.push R hm (.inl ⟨Qw hc,rfl⟩) (h.ext.trans hE) (λ_ _ q=>q.mono hE) hI (λd hd=>by grind) (E7 g' hE.DM),.inl ⟨rfl,hs⟩⟩
  .rename_i hg
   simp only[BN] at hq;subst hq;refine TN hm (DR h.tmps hg) ?_;exact⟨k,g,w,h.push R hm (.inl ⟨Qw hc,rfl⟩) h.ext (λ_ _ q=>q) h.inv (λd hd=>by grind[V.undef]) (E7 g λ_ q=>q),.inl ⟨rfl,hs⟩⟩
  grind
 | h ts=>
  obtain⟨hg,d,cs,mk,id,hd,hh,hmk,tL⟩:=R.hF m om ts hm hc;have hcs:=tL k (h.ua R hD hm hn hr (.inr hc));rw[<-PW (λt ht=>hag t (JH _ ht))] at hh;obtain⟨vs,e,mv,hrun,hvl,hV,hid⟩:=Zl h.tmps hh;have AOT:g.DM id:=h.DM m om ts d id hm hc hd AB hn;obtain⟨p1,p2,p3⟩:=h.inv.Dx id AOT;obtain⟨e2,i2⟩:=h.inv.fill (L:=L) (id:=id) (q:=λi=>g.DM i/\i≠id) (cs:=cs) (vs:=vs) (λ_=>Iff.rfl) e p1 p2 p3 (λb hb=>(h.inv.MQ id b hb).2.2 AOT) hcs hvl.full.1 hvl.full.2;have e1:Ext L g0 w0 (g.CG λi=>g.DM i/\i≠id) w:=h.ext.CG λi hi=>⟨h.ext.DM i hi,λq=>hnp m om ts d id hm hc hd AB (q ▸ hi)⟩
  refine Nn hm hg hrun ⟨k,_,_,h.push R hm (.inl ⟨ud hc,rfl⟩) (e1.trans e2) (λ_ _ q=>q.CG.mono e2) i2 (λd' hd'=>?_) ?_,.inl ⟨rfl,ue (λ_ _ _ e=>by grind)⟩⟩
  .rw[hd] at hd'; simp at hd'; subst hd'
   rw[hmk];exact hV _ _ id w.heap.size (by simp[AP.F5]) (Bx (by rw[CM]; exact if_pos rfl))
  .intro i o ts' d' id' ho Hz pX AOU hnD hne
   refine⟨h.DM i o ts' d' id' ho Hz pX AOU hnD,λq=>hne ?_⟩;subst q;exact R.AOP i m o om ts' ts d' d id' ho hm Hz hc pX hd AOU AB
 | fa r j x=>
  have hk:=h.now R hD hm hn hr (Kc hc);subst hk;obtain⟨o1,o2,kf,h1,h2,c1,c2,hf,w1,w2,w3,p1,p2,p3,v,PY,tR,hvp⟩:=R.uV m om r j x hm hc;have ABM:=R.AGs hD hm hc hr h1 h2 hf w1 w2;obtain⟨f1,f2,f3,f4,f5,f6,f7,f8,f9,f10,f11⟩:=GR hf;have hVx:=Aw h.tmps kf.x;have hVy:=Aw h.tmps kf.y;have hVi:=Aw h.tmps kf.ix;have hVv:=Aw h.tmps kf.v;rw[<-ABM _ (.inl rfl)] at hVx;rw[<-ABM _ (.inr (.inl rfl))] at hVy;rw[<-ABM _ (.inr (.inr (.inl rfl)))] at hVi;rw[<-ABM _ (.inr (.inr (.inr rfl)))] at hVv;cases uO:Jl E L Uf (σ r) kf with
  | some res=>
   have PY:Jl E L Uf (σ r) kf=some (v,σ (r+1)):=by grind[K9]
   unfold Jl at PY;split at PY
   .rename_i elem hu
    split at PY
    .rename_i ZX
     split at PY
     .rename_i ti rows z n row iE hrows hz tS hrow
      split at PY
      .rename_i hcnd
       obtain⟨q1,q2,q3,q4,q5,q6,q7⟩:=hcnd;have hvl:=Eo hVv q4;obtain⟨t1,t2⟩:=HF hvl hrow;obtain⟨b,cap,vz,e,fz,w1',wv',g',a1,a2,a3,a4,a5,a6,a7,a8⟩:=Mm (T:=om.type) h.inv hu iE q6 q7 hVx hrows hVy hz q2 q5 (us:=(a.eval kf.v).cells.toList) AA q3 t2 PY;obtain⟨kk,Tp⟩:=FY hVi tS;have hrun:(execOp a.eval om).run E.P w=.ok (.value (.slice (some ⟨b,0,none⟩) (rows.length+1) cap)) w1':=by simp[*,execOp,resolve,invoke,builtin]
       have hnj:¬ (D j\/j=m):=λq=>q.elim (λq=>hn (R.Mo hD h1 q p1)) (λq=>by grind)
       have hnx:¬ (D x\/x=m):=λq=>q.elim (λq=>hn (R.Mo hD h2 q p3)) (λq=>by grind)
       refine Nn hm f8.1 hrun ⟨r+1,g',wv',h.push R hm (.inr ⟨Kc hc,rfl⟩) (h.ext.trans a3) (λ_ _ q=>q.mono a3) a4 (λd hd=>?_) (E7 g' a3.DM),.inr ?_⟩
       .grind
       .refine⟨m,om,r,j,x,o1,o2,kf,hm,hc,h1,h2,hf,.inr rfl,hnx,?_,b,cap,rows.length,vz,e,fz,a.eval kf.v,kk,elem,ti,hu,iE,ZX.2,?_,?_,?_,?_,?_,a5,a6,?_,.inl a8,λq=>absurd q hnj⟩
        .intro i' o' r' j' x' ho' LH hi' hne
         rcases hi' with hi' | hi'
         .exact .inl (hsh m i' o' r' j' x' ho' LH hi' hne)
         omega
        .rw[f2]; exact Ju (by rw[h.size]; exact R.uW m om kf.d hm f2)
        .grind[Eh]
        all_goals grind[Eh,VL.one]
      grind
     grind
    grind
   grind
  | none=>
   unfold K9 at PY;rw[uO] at PY;simp only at PY;unfold XK at PY;split at PY
   .rename_i elem hu
    split at PY
    .rename_i ZX
     split at PY
     .rename_i ti id off len sz n iE hxe tS
      split at PY
      .rename_i zs old hzs hold
       split at PY
       .rename_i hcnd
        obtain⟨q1,q2,q3,q4,q5,q6,q7,rfl,rfl,q8,q9,q10,q11,q12⟩:=hcnd;simp only[BN,BT] at PY;obtain⟨hfv,hfs⟩:=PY;have hvl:=Eo hVv q4;rw[hxe] at hVx;obtain⟨b,cap,vz,e,fz,w1',wv',g',a1,a2,a3,a4,a5,a6,a7,a8⟩:=iZ (L:=L) (T:=om.type) h.inv hu iE q6 q7 hVx hVy hzs q2 q5 hold q8 q9 q10 q11 q12 (us:=(a.eval kf.v).cells.toList) (by rw[<-hvl.len]; omega) hvl;rw[hfs] at a4;obtain⟨kk,Tp⟩:=FY hVi tS;have hrun:(execOp a.eval om).run E.P w=.ok (.value (.slice (some ⟨b,0,none⟩) (len+1) cap)) w1':=by simp[*,execOp,resolve,invoke,builtin]
        have hnj:¬ (D j\/j=m):=λq=>q.elim (λq=>hn (R.Mo hD h1 q p1)) (λq=>by grind)
        have hnx:¬ (D x\/x=m):=λq=>q.elim (λq=>hn (R.Mo hD h2 q p3)) (λq=>by grind)
        refine Nn hm f8.1 hrun ⟨r+1,g',wv',h.push R hm (.inr ⟨Kc hc,rfl⟩) (h.ext.trans a3) (λ_ _ q=>q.mono a3) a4 (λd hd=>?_) (E7 g' a3.DM),.inr ?_⟩
        .grind
        .refine⟨m,om,r,j,x,o1,o2,kf,hm,hc,h1,h2,hf,.inr rfl,hnx,?_,b,cap,len,vz,e,fz,a.eval kf.v,kk,elem,ti,hu,iE,ZX.2,?_,?_,?_,?_,?_,a5,a6,?_,.inr ⟨_,_,_,_,by rw[tR]; exact hfv.symm,a8,by grind[Qm]⟩,λq=>absurd q hnj⟩
         .intro i' o' r' j' x' ho' LH hi' hne
          rcases hi' with hi' | hi'
          .exact .inl (hsh m i' o' r' j' x' ho' LH hi' hne)
          omega
         .rw[f2]; exact Ju (by rw[h.size]; exact R.uW m om kf.d hm f2)
         .grind[Eh]
         .grind[Eh]
         .rw[<-IW,<-hvl.len]; omega
         .grind[VL.one]
         .have:=a7; rw[<-hvl.len,q3] at this; omega
       grind
      grind
     grind
    grind
   grind
 | fj=>
  obtain⟨i,o,r,x,ho,Hz⟩:=R.AON m om hm hc;obtain⟨o1,o2,kf,h1,h2,c1,c2,hf,w1,w2,w3,p1,p2,p3,_⟩:=R.uV i o r m x ho Hz;have pY:=R.Lx hD m om i hm hr p1;have hDx:=hsh m i o r m x ho Hz pY (λe=>by grind);exact absurd (R.Mo hD h2 hDx p2) hn
 | fx=>
  obtain⟨i,o,r,j,ho,Hz⟩:=R.AOO m om hm hc;obtain⟨o1,o2,kf,h1,h2,c1,c2,hf,w1,w2,w3,p1,p2,p3,_⟩:=R.uV i o r j m ho Hz;have pY:=R.Lx hD m om i hm hr p3;exact absurd (hsh m i o r j m ho Hz pY (λe=>by grind)) hn
end
end Go.Tel
