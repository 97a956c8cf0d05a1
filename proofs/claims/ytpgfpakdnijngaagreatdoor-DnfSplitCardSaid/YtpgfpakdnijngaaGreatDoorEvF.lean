/-
  A row that is appended as zero and then written: the world meanwhile.
-/
import Derived.Test.YtpgfpakdnijngaaGreatDoorEvE
set_option linter.all false
namespace Go.Tel
theorem tB (us:List Value):∀(vs vs':List Value) (k:Nat),vs.length=vs'.length->(∀q,(q<k\/k+us.length<=q)->vs[q]?=vs'[q]?)->CJ vs k us=CJ vs' k us:=by
 induction us with
 | nil=>intro vs vs' k hl h; simp only[CJ]; exact Fm λq=>h q AB
 | cons u us ih=>
  grind[CJ]
theorem Wo (us zs:List Value) (h:zs.length=us.length) (vs:List Value) (k:Nat):CJ (CJ vs k zs) k us=CJ vs k us:=
 tB us _ _ k (Bn _ _ _) λ_ hq=>Fa _ _ _ _ AA
theorem tC (us:List Value):∀(os r:List Value),r.length=us.length->∀rest,CJ (os++r++rest) os.length us=os++us++rest:=by
 intro os r hr rest;apply Fm;intro q;rcases Fl q os.length with a|a
 .grind[Fa]
 .rcases Fl q (os.length+us.length) with b|b
  .obtain⟨j,rfl⟩:∃j,q=os.length+j:=⟨q-os.length,AA⟩
   simp_all[G6,EO,CT]
  grind[Fa]
theorem TV {os rest:List Value} (zs us:List Value) (h:zs.length=us.length):CJ (os++zs++rest) os.length us=os++us++rest:=tC us os zs h rest
theorem Gi {w:World} {vs us:List Value} {e:TypeId}:BO (Cb w vs e) w.heap.size us e=Cb w us e:=by
 refine JX ?_ rfl rfl rfl rfl;apply Sa
 grind[Bh,Cb]
theorem VP.one {I:Nat->Nat->Prop} {w:World} {p:PV} {u:Value} (g:AP) (hg:g.I=I) (h:VP I w p u) (ho:BD (.pv p)=true):u.oneCell'=true:=by
 subst hg;exact Jl (.pv h) ho
theorem Flat.one {I:Nat->Nat->Prop} {w:World} {z:List PV} {us:List Value} (g:AP) (hg:g.I=I) (h:Flat I w [z] z.length us) (ho:(z.map AV.pv).all BD=true):∀u∈us,u.oneCell'=true:=by
 intro u hu;obtain⟨j,hj,rfl⟩:=NJ.1 hu;have hlen:=h.len;simp at hlen;obtain⟨u',h1,h2⟩:=h.at_ 0 z j z[j] rfl AD
 grind[VP.one]
theorem Mj {E:Env} {L:BL} {g:AP} {w:World} {s s':AQ} (hI:Inv E g w s) {t elem T:TypeId} {i:TypeInfo} {x y v:AV} {xv yv:Value} {rows:List (List PV)} {z row:List PV} {us:List Value}
  (ht:E.P.underlying t=some (.slice elem)) (hi:E.P.info? elem=some i) (hk:i.size≠0) (hze:(zeroOf E.P elem).map List.length=some i.size)
  (hx:V g w x xv) (kP:rowsOf x=some rows) (hy:V g w y yv) (hyr:rowsOf y=some [z]) (hzl:z.length=i.size) (hzo:(z.map AV.pv).all BD=true)
  (zq:us.length=i.size) (hrow:row.length=i.size) (hvp:∀(j:Nat) p,row[j]?=some p->∃u,us[j]?=some u/\VP g.I w p u)
  (h:Kz L s elem i x row=some (v,s')) :
  ∃b cap vz e fz w1 wv g',
   (Builtin.append_ #[t,t] T #[xv,yv]).run E.P w=.ok (.slice (some ⟨b,0,none⟩) (rows.length+1) cap) w1 /\
   V g' wv v (.slice (some ⟨b,0,none⟩) (rows.length+1) cap)/\Ext L g w g' wv/\Inv E g' wv s' /\
   wv.heap[b]?=some (.cells ⟨CJ vz (rows.length*i.size) us⟩ e fz)/\w1=BO wv b vz e fz/\(rows.length*i.size+us.length<=vz.length/\fz.2<=rows.length*i.size) /\
   (∃k l,g'.tok k=some l/\l.b=b):=by
 obtain⟨ANN,Gz,yb,yo,ysz,yf,rfl,AbK,AXA⟩:=Ed hy hyr;obtain⟨zs,hzf,_,ACY⟩:=AXA.Wl (k:=i.size) hk AB Gz;have AFk:zs.length=i.size:=by have:=hzf.len; grind
 have tD:∀u∈zs,u.oneCell'=true:=Flat.one g rfl (by rw[hzl]; omega) hzo;obtain⟨zz,hzz⟩:∃zz,zeroOf E.P elem=some zz:=by grind[zeroOf]
 obtain⟨i',zv,hi',oC,_,AFl⟩:=D8 (g:=g) (w:=w) hzz;have:i'=i:=AB;subst this;have hse:D2 E.P elem=some i'.size:=by grind[D2]
 have hzs:zv.cells.size=i'.size:=by rw[<-IG,<-AFl.len]; grind
 have hn:(Builtin.lenOf (.slice ANN [z].length Gz)).run E.P w=.ok 1 w:=aZ _ _ _;have hd:∀k,TypeDesc.slice elem≠.int k:=λk e=>by grind
 have hfn:Flat g.I w [row] i'.size us:=by
  have:=IX (k:=i'.size) (n:=1) (ps:=row) (us:=us) (I:=g.I) (w:=w) AA AA hvp
  grind[CI]
 unfold Kz at h;split at h
 .rename_i EK
  simp[rowsOf] at kP; subst kP;split at h
  .rename_i hc
   obtain⟨QS,MU,hall⟩:=hc;have hl:=Ll hall;simp only[BN,BU] at h;obtain⟨rfl,rfl⟩:=h;cases hx with
   | @AE _ base b o sz f hr=>
    obtain⟨os,hfo,_,TR⟩:=hr.Wl hk hl EK.length;obtain⟨HH,rest,Ma,QO,hrun⟩:=run_append_grow (base:=base) (sCap:=EK.length) T [] ht hi ht hd hn (ACY E.P (Bb w) rfl) (TR E.P (Bb w) rfl) oC AA QS MU;obtain⟨e1,i1⟩:=hI.drew (L:=L);have s8:=hfo.append hfn
    have fh:(os++us++rest).length=HH*i'.size:=by
     simp only[Bd,hfo.len,zq,QO,hzs];rw[show EK.length*i'.size+i'.size=(EK.length+1)*i'.size by grind,<-EN];rw[show EK.length+1+(HH-(EK.length+1))=HH by omega]
    obtain⟨e3,i3⟩:=i1.kM (L:=L) (t:=s.ts.length) (n:=EK.length+1) (e:=elem) fh Ma hk hse (.inl ⟨rfl,rfl⟩);have hrl:(EK++[row]).length=EK.length+1:=AD;refine⟨w.heap.size,HH,os++zs++rest,elem,(0,0),_,Cb (Bb w) (os++us++rest) elem,_,hrun,?_,e1.trans e3,i3,?_,?_,?_,s.ts.length,⟨(Bb w).heap.size,HH,i'.size,EK.length+1,elem⟩,by simp[AP.Gf],rfl⟩
    .have hV:=G7 (g:=g.Gf s.ts.length ⟨(Bb w).heap.size,HH,i'.size,EK.length+1,elem⟩) (w:=Cb (Bb w) (os++us++rest) elem) (t:=s.ts.length) (b:=(Bb w).heap.size) (cap:=HH) (e:=elem)
      (by simp[AP.Gf]) (s8.mono (e1.trans e3).mono (e1.trans e3).cell) hrl Ma (λo ho=>.inr ⟨rfl,ho⟩) (λq u hq=>by
       rw[Bu (by rw[CL]; exact if_pos rfl),CT (DD hq)]; omega)
     rw[hrl] at hV;exact hV
    .rw[CL,if_pos (show w.heap.size=(Bb w).heap.size from rfl),<-hfo.len,TV zs us AA]
    .grind[Gi,Bb]
    .exact⟨by simp[hfo.len,AFk,zq],AN _⟩
  grind
 .rename_i k EK
  simp[rowsOf] at kP; subst kP;split at h
  .rename_i hc
   obtain⟨QS,MU,hts,Ee,hall⟩:=hc;have hl:=Ll hall;simp only[BN,BU] at h;obtain⟨rfl,rfl⟩:=h;have hrl:(EK++[row]).length=EK.length+1:=AD;cases hx with
   | @own _ _ base b o sz cap f l hr hcap Vl Mi hf=>
    obtain⟨l',fN,Sr,AW3⟩:=hI.Gx k _ _ hts;have:l'=l:=AB;subst this;obtain⟨rfl,rfl,rfl,rfl,rfl⟩:=hf Sr.symm;obtain⟨os,hfo,hco,TR⟩:=hr.Wl hk hl l'.cap;have s8:=hfo.append hfn;obtain⟨vs,fz,hh,AW5,hnc,hsz,hfz,hsl⟩:=hI.tok k l' Vl;have kN:l'.sz=i'.size:=AB
    by_cases hroom:EK.length+1<=l'.cap
    .have hbd:l'.n*l'.sz+i'.size<=vs.length:=by
      have:=B5 i'.size hroom
      grind
     have hst:=FZ (P:=E.P) (b:=l'.b) (o:=l'.n*l'.sz) (e:=l'.e) hfz zs 0 w vs tD hh AA;obtain⟨e3,i3⟩:=hI.ACW (L:=L) (n:=EK.length+1) (us:=us) Vl hh AA hroom Ee;have i3':Inv E (g.Gf k { l' with n:=EK.length+1 }) (BO w l'.b (CJ vs (l'.n*l'.sz) us) l'.e fz) { s with ts:=s.ts.set k (EK.length+1,elem) }:=AB;refine⟨l'.b,l'.cap,CJ vs (l'.n*l'.sz) zs,l'.e,fz,BO w l'.b (CJ vs (l'.n*l'.sz) zs) l'.e fz,BO w l'.b (CJ vs (l'.n*l'.sz) us) l'.e fz,_,?_,?_,e3,i3',?_,?_,?_,k,{ l' with n:=EK.length+1 },by simp[AP.Gf],rfl⟩
     .simp_all[run_append_room,DQ]
     .have hV:=G7 (g:=g.Gf k { l' with n:=EK.length+1 }) (w:=BO w l'.b (CJ vs (l'.n*l'.sz) us) l'.e fz) (t:=k) (b:=l'.b) (cap:=l'.cap) (sz:=l'.sz) (e:=l'.e)
       (by simp[AP.Gf]) (Flat.ANM kN.symm (s8.mono e3.mono e3.cell)) hrl hroom (λo ho=>.inr ⟨rfl,ho⟩) (λq u hq=>by
        rw[Bu (by rw[Bh,if_pos rfl,if_pos (hI.HU Vl)])];rcases Fl q os.length with x|x
        .rw[CT x] at hq
         have:=(hco q u hq).2;rw[Bu hh,CQ] at this;rw[Fa us vs _ _ (.inl (by rw[Sr,kN,<-hfo.len]; exact x))];omega
        .rw[EO x] at hq
         have:=G6 us vs (l'.n*l'.sz) _ u hq AA;rw[Sr,kN,<-hfo.len,show os.length+(q-os.length)=q by omega] at this;rw[Sr,kN,<-hfo.len];omega)
      grind
     .grind[Bh,Wo]
     .exact EX.symm
     grind[Bn]
    .obtain⟨HH,rest,Ma,QO,hrun⟩:=run_append_grow (base:=some ⟨l'.b,0,none⟩) (sCap:=l'.cap) T [] ht hi ht hd hn (ACY E.P (Bb w) rfl) (TR E.P (Bb w) rfl) oC AA QS MU
     obtain⟨e1,i1⟩:=hI.drew (L:=L)
     have fh:(os++us++rest).length=HH*i'.size:=by
      simp only[Bd,hfo.len,zq,QO,hzs];rw[show EK.length*i'.size+i'.size=(EK.length+1)*i'.size by grind,<-EN];rw[show EK.length+1+(HH-(EK.length+1))=HH by omega]
     obtain⟨e3,i3⟩:=i1.kM (L:=L) (t:=k) (n:=EK.length+1) (e:=elem) fh Ma hk hse (.inr ⟨l',Vl,AA,Ee,rfl⟩);refine⟨w.heap.size,HH,os++zs++rest,elem,(0,0),_,Cb (Bb w) (os++us++rest) elem,_,hrun,?_,e1.trans e3,i3,?_,?_,?_,k,⟨(Bb w).heap.size,HH,i'.size,EK.length+1,elem⟩,by simp[AP.Gf],rfl⟩
     .have hV:=G7 (g:=g.Gf k ⟨(Bb w).heap.size,HH,i'.size,EK.length+1,elem⟩) (w:=Cb (Bb w) (os++us++rest) elem) (t:=k) (b:=(Bb w).heap.size) (cap:=HH) (e:=elem)
       (by simp[AP.Gf]) (s8.mono (e1.trans e3).mono (e1.trans e3).cell) hrl Ma (λo ho=>.inr ⟨rfl,ho⟩) (λq u hq=>by
        rw[Bu (by rw[CL]; exact if_pos rfl),CT (DD hq)]; omega)
      rw[hrl] at hV;exact hV
     .rw[CL,if_pos (show w.heap.size=(Bb w).heap.size from rfl),<-hfo.len,TV zs us AA]
     .grind[Gi,Bb]
     .exact⟨by simp[hfo.len,AFk,zq],AN _⟩
  grind
 grind
theorem gB {E:Env} {L:BL} {g:AP} {w:World} {s:AQ} (hI:Inv E g w s) {t elem T:TypeId} {i:TypeInfo} {y:AV} {xv yv:Value} {id len:Nat} {old zs cells:List AV} {us:List Value}
  (ht:E.P.underlying t=some (.slice elem)) (hi:E.P.info? elem=some i) (hk:i.size≠0) (hze:(zeroOf E.P elem).map List.length=some i.size)
  (hx:V g w (.ref id 0 len i.size) xv) (hy:V g w y yv) (hzs:C6 s i.size y=some zs) (hzl:zs.length=i.size) (hzo:zs.all BD=true)
  (hold:s.bs[id]?=some old) (hlo:len*i.size<=old.length) (hal:Tel.alive s id=true) (QS:(len+1)*i.bytes<=2 ^ 45) (MU:len+1<=2 ^ 45) (hro:L.ro<=id)
  (zq:us.length=i.size) (hvl:VL g w cells us) :
  ∃b cap vz e fz w1 wv g',
   (Builtin.append_ #[t,t] T #[xv,yv]).run E.P w=.ok (.slice (some ⟨b,0,none⟩) (len+1) cap) w1 /\
   V g' wv (.ref s.bs.length 0 (len+1) i.size) (.slice (some ⟨b,0,none⟩) (len+1) cap)/\Ext L g w g' wv/\Inv E g' wv { s with bs:=s.bs.set id []++[old.take (len*i.size)++cells] } /\
   wv.heap[b]?=some (.cells ⟨CJ vz (len*i.size) us⟩ e fz)/\w1=BO wv b vz e fz/\(len*i.size+us.length<=vz.length/\fz.2<=len*i.size) /\
   g'.blk s.bs.length=some b:=by
 obtain⟨zz,hzz⟩:∃zz,zeroOf E.P elem=some zz:=by grind[zeroOf]
 obtain⟨i',zv,hi',oC,_,AFl⟩:=D8 (g:=g) (w:=w) hzz;have:i'=i:=AB;subst this;have AXB:zv.cells.size=i'.size:=by rw[<-IG,<-AFl.len]; grind
 obtain⟨n,zsv,hn,Ff,hfc,ACZ⟩:=Jm hI hy hk hzs
 have hn1:n=1:=by
  rw[hzl] at Ff;exact(Nat.eq_of_mul_eq_mul_right (Nat.pos_of_ne_zero hk) AA).symm
 subst hn1;have tD:∀u∈zsv,u.oneCell'=true:=ACZ.one hzo;have AFk:zsv.length=i'.size:=by rw[<-ACZ.len]; omega
 have hcells:cells.length=i'.size:=by rw[hvl.len]; omega
 have hd:∀k,TypeDesc.slice elem≠.int k:=λk e=>by grind
 cases hx with
 | JI hd=>exact absurd hd (hI.alive hal)
 | @ref _ _ _ _ b cap n' e IY hcap hs hn'=>
  obtain⟨cs',vs,e',k1,k2,kle,k3⟩:=hI.blk id b IY;rw[hold] at k1; simp only[BN] at k1; subst k1;have hsh:vs.length=n':=by rw[Bv k2] at hs; grind
  have k4:VL g w (old.take (len*i'.size)) (vs.take (len*i'.size)):=by
   have:=k3.take (len*i'.size)
   grind
  have aL:(old.take (len*i'.size)).length=len*i'.size:=AB
  by_cases hroom:len+1<=cap
  .have hbd:len*i'.size+us.length<=vs.length:=by
    have:=B5 i'.size hroom
    grind
   have hst:=F2 (P:=E.P) (b:=b) (o:=len*i'.size) (e:=e') zsv 0 w vs tD k2 AA
   obtain⟨e1,e2⟩:=hI.s7 (L:=L) (cs':=old.take (len*i'.size)++cells) (vs':=CJ vs (len*i'.size) us) IY k2 (Bn _ _ _) hro
    (by grind[Bn])
    (by rw[Bd,aL,hvl.len,K5 us vs _ hbd]; exact k4.append hvl)
   refine⟨b,cap,CJ vs (len*i'.size) zsv,e',(0,0),BO w b (CJ vs (len*i'.size) zsv) e',BO w b (CJ vs (len*i'.size) us) e',_,?_,V.ref (b:=b) (e:=e') (n:=n') ?_ hroom ?_ hn',e1,e2,?_,?_,?_,?_⟩
   .simp[*,run_append_room,DQ]
   .simp[AP.F3]
   .grind[Bv,Bh,Bn]
   .grind[Bh,Wo]
   .exact EX.symm
   all_goals grind[Bn,AP.F3]
  .have hvt:(vs.take (len*i'.size)).length=len*i'.size:=by grind
   have hos:(Builtin.firstCells i'.size len (.slice (some ⟨b,0,none⟩) len cap)).run E.P (Bb w)=.ok (List.toArray (vs.take (len*i'.size))) (Bb w):=by grind[Builtin.firstCells,Ek,Bb,Bu]
   obtain⟨HH,rest,Ma,QO,hrun⟩:=run_append_grow (base:=some ⟨b,0,none⟩) (sCap:=cap) T [] ht hi ht hd hn (hfc (Bb w) rfl) hos oC AA QS MU;obtain⟨e1,i1⟩:=hI.drew (L:=L);obtain⟨e2,i2⟩:=i1.kill (L:=L) IY hro;have hpre:(old.take (len*i'.size)++cells).length<=(vs.take (len*i'.size)++us++rest).length:=AB
   have Vl:(vs.take (len*i'.size)++us++rest).take (old.take (len*i'.size)++cells).length=vs.take (len*i'.size)++us:=by
    rw[Sc AB]
   obtain⟨e3,i3⟩:=i2.TK (L:=L) (cs:=old.take (len*i'.size)++cells) (vs:=vs.take (len*i'.size)++us++rest) elem hpre (by rw[Vl]; exact((k4.append hvl).mono e1).mono e2);have hl:({ s with bs:=s.bs.set id [] }:AQ).bs.length=s.bs.length:=AD;refine⟨w.heap.size,HH,vs.take (len*i'.size)++zsv++rest,elem,(0,0),_,Cb (Bb w) (vs.take (len*i'.size)++us++rest) elem,_,hrun,?_,(e1.trans e2).trans e3,i3,?_,?_,?_,?_⟩
   .refine V.ref (b:=w.heap.size) (e:=elem) (n:=(vs.take (len*i'.size)++us++rest).length) ?_ Ma ?_ ?_
    .simp[AP.F3,Bb]
    .exact Bv (by rw[CL]; exact if_pos rfl)
    .simp only[Bd,hvt,zq,QO,AXB]
     have h1:len*i'.size+i'.size=(len+1)*i'.size:=AB;rw[h1,<-EN]
     grind
   all_goals grind[CL,Bb,TV,Gi,AP.F3]
theorem Y0 {w:World} {b b':Nat} {vs us:List Value} {e e':TypeId} {fz fz':Nat×Nat} (h:b≠b'):BO (BO w b vs e fz) b' us e' fz'=BO (BO w b' us e' fz') b vs e fz:=by
 refine JX ?_ rfl rfl rfl rfl;exact Array.setIfInBounds_comm _ _ h
theorem gD {E:Env} {L:BL} {g:AP} {w:World} {s s':AQ} (hI:Inv E g w s) {t:TypeId} {a x:AV} {av xv:Value}
  (ha:V g w a av) (hx:V g w x xv) (h:OD E L s t a x=some s') :
  ∃id b vs e,(∃off,a=.ptr id off)/\g.blk id=some b/\Ext L g w g (BO w b vs e)/\Inv E g (BO w b vs e) s' /\
   ∀w2:World,w2.heap[b]?=w.heap[b]?->(Instr.storeAt t av xv).run E.P w2=.ok () (BO w2 b vs e):=by
 unfold OD at h;split at h
 .rename_i id off i hi
  split at h
  .rename_i cs hcs
   simp only at h;split at h
   .rename_i hc
    obtain⟨h1,h2,h3,h4,_,sw⟩:=hc;simp at h; subst h;simp only[RX] at hcs;cases ha with
    | Li hd=>
     have:=hI.Dn id hd
     grind
    | @ptr _ _ b hb=>
     obtain⟨cs',vs,e,k1,k2,kle,k3⟩:=hI.blk id b hb;rw[hcs] at k1; simp at k1; subst k1;have hv:=Ej hx h4;have hone:∀u∈xv.cells.toList,u.oneCell'=true:=VL.one hv h4;have hlen:xv.cells.size=i.size:=by rw[<-IG,<-hv.len]; omega
     obtain⟨q1,q2⟩:=hI.putRow (L:=L) (vs':=CJ vs off xv.cells.toList) (cs':=setCells cs off (cellsOf x)) hb k2 (Bn _ _ _) h3 (by grind[FY,Bn]) (by grind[FY,Wj,VL.setCells]);refine⟨id,b,_,e,⟨off,rfl⟩,hb,q1,q2,λw2 zu=>?_⟩;simp only[Instr.storeAt,Instr.sureAddr,storeVar,Sem.run_bind,Sem.run_pure,Result.andThen_ok,run_sizeOf hi,hlen,ne_eq,not_true_eq_false,I8];have:=F2 (P:=E.P) (b:=b) (o:=off) (e:=e) xv.cells.toList 0 w2 vs hone (zu.trans k2) AB;omega
   grind
  grind
 grind
theorem tE {E:Env} {L:BL} {g:AP} {w:World} {s:AQ} {U:Nat->AV} {a:Act} {o:Oper} {v:AV} (ho:(∃x,o.op=.nilCheck x)\/(∃t x f,o.op=.fieldAddr t x f)\/(∃x,o.op=.move x))
  (hI:Inv E g w s) (hU:∀t,V g w (U t) (a.tmps.getD t undef)) (h:Jh E L U s o=some v) :
  ∃v',(∀w2:World,(execOp a.eval o).run E.P w2=.ok (.value v') w2)/\V g w v v':=by
 have h:=TT h;obtain⟨dst,op,type,pos,after,guard⟩:=o;rcases ho with ⟨x,rfl⟩|⟨t,x,f,rfl⟩|⟨x,rfl⟩
 .simp only[Ci] at h
  split at h
  .rename_i u hu
   simp at h; subst h;exact Mk _ rfl hI hU hu
  grind
 .simp only[Ci] at h
  split at h
  .rename_i u hu
   simp at h; subst h;obtain⟨v',hr,hv⟩:=K4 hI (Av hU x) hu;simp[*,execOp]
  grind
 .simp only[Ci,BN,BU] at h
  obtain⟨rfl,_⟩:=h
  simp_all[execOp,Av]
structure Vw (E:Env) (L:BL) (cf:Cx) (ops:Array Oper) (p:Bl) (K N:Nat) (U0 Uf:Nat->AV) (σ:Nat->AQ):Prop where
 AAS:∀(i:Nat) o e,ops[i]?=some o->e∈o.after->Region.binds .any e=true->e.on<i
 pre:∀(i:Nat) o j,ops[i]?=some o->j∈D3 p i->∃e,e∈o.after/\Region.binds .any e=true/\(e.on=j\/j∈D3 p e.on)
 cls:∀(i:Nat) o,ops[i]?=some o->∃c,p.cls[i]?=some c
 dst:∀(i j:Nat) oi oj d,ops[i]?=some oi->ops[j]?=some oj->oi.dst=some d->oj.dst=some d->i=j
 read:∀(i j:Nat) oi oj d,ops[i]?=some oi->ops[j]?=some oj->oj.dst=some d->d∈G8 ops oi++GQ oi ->
  (has (Hr p.GG i) d=true/\(j=i\/i∈D3 p j))\/(has (Hr p.GG i) d=false/\j∈D3 p i)
 rk:∀(i j:Nat) oi oj r r',ops[i]?=some oi->ops[j]?=some oj->FG p i=some r->FG p j=some r'->r<r'->i∈D3 p j
 ACa:∀(i j:Nat) oi oj r,ops[i]?=some oi->ops[j]?=some oj->FG p i=some r->FG p j=some r->i=j
 AFm:∀k,k<K->∃(i:Nat) (o:Oper),ops[i]?=some o/\FG p i=some k
 AFn:∀(i:Nat) o r,ops[i]?=some o->FG p i=some r->r<K
 time:∀(i:Nat) o ts,ops[i]?=some o->(p.cls[i]?=some (.q ts)\/p.cls[i]?=some (.h ts))->∀k,k<=K->k∉ts ->
  ∃(j:Nat) (oj:Oper) (r:Nat),ops[j]?=some oj/\FG p j=some r/\((j∈D3 p i/\k<=r)\/(i∈D3 p j/\r<k))
 tF:∀(i:Nat) o r (j x:Nat),ops[i]?=some o->p.cls[i]?=some (.fa r j x)->∃o1 o2 k,ops[j]?=some o1/\ops[x]?=some o2/\p.cls[j]?=some .fj/\p.cls[x]?=some .fx/\fused o o1 o2=some k /\
  Hr p.GG i=[]/\Hr p.GG j=[]/\Hr p.GG x=[]/\i∈D3 p j/\j∈D3 p x/\i∈D3 p x /\
  ∃v,K0 E L Uf (σ r) k=some (v,σ (r+1))/\Uf k.d=v/\Uf k.p=.Gh
 win:∀(i:Nat) o r (j x:Nat),ops[i]?=some o->p.cls[i]?=some (.fa r j x)->∀(m:Nat) om,ops[m]?=some om->m≠i->m≠j->m≠x ->
  (m∈D3 p i\/x∈D3 p m\/Yt ops p m=true)/\∀d,om.dst=some d->(d∈D9 ops j\/d∈D9 ops x)->m∈D3 p i
 mu:∀(i:Nat) o r (j x d FO off len sz:Nat),QX E L ops i j x=true->ops[i]?=some o->p.cls[i]?=some (.fa r j x)->o.dst=some d->Uf d=.ref FO off len sz->∀(m:Nat) om r' t y z,ops[m]?=some om->p.cls[m]?=some (.w r')->om.op=.store t y z ->
  ∀id off',Am (Ft p.GG U0 Uf m) y=.ptr id off'->id≠FO
 ANO:∀(j:Nat) oj,ops[j]?=some oj->p.cls[j]?=some .fj->∃(i:Nat) (o:Oper) (r x:Nat),ops[i]?=some o/\p.cls[i]?=some (.fa r j x)
 ANP:∀(x:Nat) ox,ops[x]?=some ox->p.cls[x]?=some .fx->∃(i:Nat) (o:Oper) (r j:Nat),ops[i]?=some o/\p.cls[i]?=some (.fa r j x)
 out:∀t,(∀(i:Nat) o,ops[i]?=some o->o.dst≠some t)->Uf t=U0 t
 tG:∀(i:Nat) o d,ops[i]?=some o->o.dst=some d->d<N
 wF:∀(i:Nat) o r,ops[i]?=some o->p.cls[i]?=some (.w r)->∃v,OG E L cf ops (Ft p.GG U0 Uf i) (σ r) o=some (v,σ (r+1))/\∀d,o.dst=some d->Uf d=v
 qF:∀(i:Nat) o ts k,ops[i]?=some o->p.cls[i]?=some (.q ts)->k∈ts->∃v,FN E L ops (Ft p.GG U0 Uf i) (σ k) o=some v/\∀d,o.dst=some d->Uf d=v
 hF:∀(i:Nat) o ts,ops[i]?=some o->p.cls[i]?=some (.h ts)->o.guard=none/\∃d cs mk id,o.dst=some d/\hcells E (Ft p.GG U0 Uf i) o=some (cs,mk)/\Uf d=mk id/\∀k∈ts,(σ k).bs[id]?=some cs
 ANQ:∀(i j:Nat) oi oj ts us d e id,ops[i]?=some oi->ops[j]?=some oj->p.cls[i]?=some (.h ts)->p.cls[j]?=some (.h us)->oi.dst=some d->oj.dst=some e->KC (Uf d)=some id->KC (Uf e)=some id->i=j
section
variable {E:Env} {L:BL} {cf:Cx} {ops:Array Oper} {p:Bl} {K N:Nat} {U0 Uf:Nat->AV} {σ:Nat->AQ}
theorem Vw.tH (R:Vw E L cf ops p K N U0 Uf σ):∀i o j,ops[i]?=some o->j∈D3 p i->j<i:=by
 intro i
 induction i using Nat.strongRecOn with
 | ind i ih=>
  intro o j ho hj;obtain⟨e,he,hb,h⟩:=R.pre i o j ho hj;have hlt:=R.AAS i o e ho he hb
  grind
def Down (ops:Array Oper) (D:Nat->Prop):Prop:=∀(i:Nat) o e,ops[i]?=some o->D i->e∈o.after->Region.binds .any e=true->D e.on
theorem Vw.Lo (R:Vw E L cf ops p K N U0 Uf σ) {D:Nat->Prop} (hD:Down ops D):∀i o j,ops[i]?=some o->(∀e∈o.after,Region.binds .any e=true->D e.on)->j∈D3 p i->D j:=by
 intro i
 induction i using Nat.strongRecOn with
 | ind i ih=>
  intro o j ho hr hj;obtain⟨e,he,hb,h⟩:=R.pre i o j ho hj;have hlt:=R.AAS i o e ho he hb;have hde:=hr e he hb;rcases h with rfl|h
  .omega
  .obtain⟨oe,hoe⟩:∃oe,ops[e.on]?=some oe:=⟨ops[e.on]'(AB),AD⟩
   exact ih e.on hlt oe j hoe (λe' he' hb'=>hD e.on oe e' hoe hde he' hb') h
theorem Vw.Ml (R:Vw E L cf ops p K N U0 Uf σ) {D:Nat->Prop} (hD:Down ops D) {i j:Nat} {o:Oper} (ho:ops[i]?=some o) (hi:D i) (hj:j∈D3 p i):D j:=
 R.Lo hD i o j ho (λe he hb=>hD i o e ho hi he hb) hj
open Classical in
noncomputable def rho (ops:Array Oper) (U0 Uf:Nat->AV) (D:Nat->Prop) (t:Nat):AV:=if ∃(i:Nat) (o:Oper),ops[i]?=some o/\o.dst=some t/\D i then Uf t else U0 t
theorem TW {D:Nat->Prop} {t i:Nat} {o:Oper} (ho:ops[i]?=some o) (hd:o.dst=some t) (hi:D i):rho ops U0 Uf D t=Uf t:=if_pos ⟨i,o,ho,hd,hi⟩
theorem Sw {D:Nat->Prop} {t:Nat} (h:∀(i:Nat) (o:Oper),ops[i]?=some o->o.dst=some t->¬ D i):rho ops U0 Uf D t=U0 t:=if_neg (λ⟨i,o,ho,hd,hi⟩=>h i o ho hd hi)
theorem Vw.TX (R:Vw E L cf ops p K N U0 Uf σ) {D:Nat->Prop} {t:Nat} (h:∀(i:Nat) (o:Oper),ops[i]?=some o->o.dst≠some t):rho ops U0 Uf D t=Uf t:=by
 rw[Sw (λi o ho hd=>absurd hd (h i o ho)),R.out t h]
theorem Vw.agree (R:Vw E L cf ops p K N U0 Uf σ) {D:Nat->Prop} (hD:Down ops D) {i:Nat} {o:Oper} (ho:ops[i]?=some o) (hn:¬ D i) (hr:∀e∈o.after,Region.binds .any e=true->D e.on) :
  ∀t∈G8 ops o++GQ o,rho ops U0 Uf D t=Ft p.GG U0 Uf i t:=by
 intro t ht;unfold Ft
 by_cases hw:∃(j:Nat) (oj:Oper),ops[j]?=some oj/\oj.dst=some t
 .obtain⟨j,oj,tI,tJ⟩:=hw
  rcases R.read i j o oj t ho tI tJ ht with ⟨h1,h2⟩|⟨h1,h2⟩
  .rw[h1,AM]
   refine Sw λk ok hok hdk hDk=>?_
   have:k=j:=R.dst k j ok oj t hok tI hdk tJ;subst this;rcases h2 with rfl|h2
   .grind
   .exact hn (R.Ml hD hok hDk h2)
  .rw[h1,AK]
   exact TW tI tJ (R.Lo hD i o j ho hr h2)
 .have hno:∀(j:Nat) (oj:Oper),ops[j]?=some oj->oj.dst≠some t:=λj oj tI tJ=>hw ⟨j,oj,tI,tJ⟩
  rw[R.TX hno];cases has (Hr p.GG i) t with
  | true=>rw[AM,R.out t hno]
  | false=>rfl
end
def Open (P:Program) (q:AV) (X:Prop) (kf:JF) (Dj:Prop) (a:Act) (g:AP) (w wv:World):Prop:=
 ∃(b cap len:Nat) (vz:List Value) (e:TypeId) (fz:Nat×Nat) (xv:Value) (kk:IntKind) (elem:TypeId) (ti:TypeInfo),
  P.underlying kf.t=some (.slice elem)/\P.info? elem=some ti/\kf.te=elem /\
  a.eval (.tmp kf.d)=.slice (some ⟨b,0,none⟩) (len+1) cap/\a.eval kf.ix=.int kk (len:Int)/\a.eval kf.v=xv/\xv.cells.size=ti.size/\(∀u∈xv.cells.toList,u.oneCell'=true) /\
  wv.heap[b]?=some (.cells ⟨CJ vz (len*ti.size) xv.cells.toList⟩ e fz)/\w=BO wv b vz e fz/\(len*ti.size+ti.size<=vz.length/\fz.2<=len*ti.size)/\((∃k l,g.tok k=some l/\l.b=b)\/∃FO off n sz,q=.ref FO off n sz/\g.blk FO=some b/\X) /\
  (Dj->a.eval (.tmp kf.p)=.pointer (some ⟨b,len*ti.size,none⟩))
def Nw (ops:Array Oper) (p:Bl) (D:Nat->Prop) (i:Nat):Prop:=∀(i':Nat) o' r' (j' x':Nat),ops[i']?=some o'->p.cls[i']?=some (.fa r' j' x')->D i'->i'≠i->D x'
def Window (E:Env) (L:BL) (Uf:Nat->AV) (ops:Array Oper) (p:Bl) (D:Nat->Prop) (a:Act) (g:AP) (w wv:World):Prop:=
 (w=wv/\∀i,Nw ops p D i) \/
 ∃(i:Nat) (o:Oper) (r j x:Nat) (o1 o2:Oper) (kf:JF),ops[i]?=some o/\p.cls[i]?=some (.fa r j x)/\ops[j]?=some o1/\ops[x]?=some o2/\fused o o1 o2=some kf/\D i/\¬ D x /\
  Nw ops p D i/\Open E.P (Uf kf.d) (QX E L ops i j x=true) kf (D j) a g w wv
structure Core (E:Env) (L:BL) (ops:Array Oper) (p:Bl) (K N:Nat) (U0 Uf:Nat->AV) (σ:Nat->AQ) (ds:List Deferred) (g0:AP) (w0:World) (D:Nat->Prop) (a:Act) (k:Nat) (g:AP) (wv:World):Prop where
 kK:k<=K
 time:∀(i:Nat) o r,ops[i]?=some o->FG p i=some r->(D i<->r<k)
 size:a.tmps.size=N
 defers:a.defers=ds
 ext:Ext L g0 w0 g wv
 inv:Inv E g wv (σ k)
 tmps:∀t,V g wv (rho ops U0 Uf D t) (a.tmps.getD t undef)
 DJ:∀(i:Nat) o ts d id,ops[i]?=some o->p.cls[i]?=some (.h ts)->o.dst=some d->KC (Uf d)=some id->¬ D i->g.DJ id
def J (E:Env) (L:BL) (ops:Array Oper) (p:Bl) (K N:Nat) (U0 Uf:Nat->AV) (σ:Nat->AQ) (ds:List Deferred) (g0:AP) (w0:World) (D:Nat->Prop) (a:Act) (w:World):Prop:=
 ∃k g wv,Core E L ops p K N U0 Uf σ ds g0 w0 D a k g wv/\Window E L Uf ops p D a g w wv
theorem TY (a:Act) (d:Option Tmp) (v:Value):(a.put d v).tmps.size=a.tmps.size:=by cases d <;> simp[Act.put]
theorem put_defers (a:Act) (d:Option Tmp) (v:Value):(a.put d v).defers=a.defers:=by cases d <;> rfl
theorem Jo {a:Act} {d:Nat} {v:Value} (h:d<a.tmps.size):(a.put (some d) v).tmps.getD d undef=v:=by simp[Act.put,h]
theorem Qf {a:Act} {d:Option Tmp} {v:Value} {t:Nat} (h:d≠some t):(a.put d v).tmps.getD t undef=a.tmps.getD t undef:=by
 cases d with
 | none=>rfl
 | some d=>
  simp_all[Act.put]
section
variable {E:Env} {L:BL} {cf:Cx} {ops:Array Oper} {p:Bl} {K N:Nat} {U0 Uf:Nat->AV} {σ:Nat->AQ} {ds:List Deferred} {g0:AP} {w0:World}
theorem Core.push (R:Vw E L cf ops p K N U0 Uf σ) {D:Nat->Prop} {a:Act} {k k':Nat} {g g':AP} {wv wv':World} (h:Core E L ops p K N U0 Uf σ ds g0 w0 D a k g wv) {m:Nat} {om:Oper} (hm:ops[m]?=some om)
  (hk:(FG p m=none/\k'=k)\/(FG p m=some k/\k'=k+1)) (AXE:Ext L g0 w0 g' wv') (hmono:∀x u,V g wv x u->V g' wv' x u) (hinv:Inv E g' wv' (σ k')) {v':Value}
  (hv:∀d,om.dst=some d->V g' wv' (Uf d) v')
  (ANR:∀(i:Nat) o ts d id,ops[i]?=some o->p.cls[i]?=some (.h ts)->o.dst=some d->KC (Uf d)=some id->¬ D i->i≠m->g'.DJ id) :
  Core E L ops p K N U0 Uf σ ds g0 w0 (λi=>D i\/i=m) (a.put om.dst v') k' g' wv' where
 kK:=by
  rcases hk with ⟨_,rfl⟩|⟨h1,rfl⟩
  .exact h.kK
  .exact R.AFn m om k hm h1
 time:=λi o r ho hr=>by
  have ht:=h.time i o r ho hr;rcases hk with ⟨h1,rfl⟩|⟨h1,rfl⟩
  .grind
  .by_cases hi:i=m
   .grind
   .have:r≠k:=λe=>hi (R.ACa i m o om r ho hm hr (e ▸ h1))
    grind
 size:=by rw[TY]; exact h.size
 defers:=by rw[put_defers]; exact h.defers
 ext:=AXE
 inv:=hinv
 tmps:=λt=>by
  by_cases ht:om.dst=some t
  .rw[TW hm ht (.inr rfl),ht,Jo (by rw[h.size]; exact R.tG m om t hm ht)]
   grind
  .rw[Qf ht]
   have:rho ops U0 Uf (λi=>D i\/i=m) t=rho ops U0 Uf D t:=by
    by_cases hx:∃(i:Nat) (o:Oper),ops[i]?=some o/\o.dst=some t/\D i
    all_goals grind[TW,Sw]
   rw[this];exact hmono _ _ (h.tmps t)
 DJ:=λi o ts d id ho hc hd hid hn=>ANR i o ts d id ho hc hd hid (λx=>hn (.inl x)) (λx=>hn (.inr x))
theorem Core.now (R:Vw E L cf ops p K N U0 Uf σ) {D:Nat->Prop} {a:Act} {k:Nat} {g:AP} {wv:World} (h:Core E L ops p K N U0 Uf σ ds g0 w0 D a k g wv) (hD:Down ops D) {m r:Nat} {om:Oper} (hm:ops[m]?=some om) (hn:¬ D m)
  (hr:∀e∈om.after,Region.binds .any e=true->D e.on) (ah:FG p m=some r):r=k:=by
 have h1:k<=r:=by
  rcases Fl r k with x|x
  .exact absurd ((h.time m om r hm ah).2 x) hn
  omega
 rcases Fl k r with x|x
 .obtain⟨i,o,ho,hi⟩:=R.AFm k (by have:=R.AFn m om r hm ah; omega)
  have:=(h.time i o k ho hi).1 (R.Lo hD m om i hm hr (R.rk i m o om k r ho hm hi ah x));omega
 omega
theorem Core.tK (R:Vw E L cf ops p K N U0 Uf σ) {D:Nat->Prop} {a:Act} {k:Nat} {g:AP} {wv:World} (h:Core E L ops p K N U0 Uf σ ds g0 w0 D a k g wv) (hD:Down ops D) {m:Nat} {om:Oper} {ts:List Nat} (hm:ops[m]?=some om) (hn:¬ D m)
  (hr:∀e∈om.after,Region.binds .any e=true->D e.on) (hc:p.cls[m]?=some (.q ts)\/p.cls[m]?=some (.h ts)):k∈ts:=by
 rcases Classical.em (k∈ts) with x|x
 .exact x
 .obtain⟨j,oj,r,tI,ah,h1|h1⟩:=R.time m om ts hm hc k h.kK x
  .have:=(h.time j oj r tI ah).1 (R.Lo hD m om j hm hr h1.1)
   omega
  .exact absurd (R.Ml hD tI ((h.time j oj r tI ah).2 h1.2) h1.1) hn
theorem Nw.more {D:Nat->Prop} {m i:Nat} {om:Oper} (hm:ops[m]?=some om) (hnf:∀r j x,p.cls[m]?≠some (.fa r j x)) (h:Nw ops p D i):Nw ops p (λi=>D i\/i=m) i:=by
 intro i' o' r' j' x' ho hc hi hne;rcases hi with hi|rfl
 .exact .inl (h i' o' r' j' x' ho hc hi hne)
 grind
end
theorem K6 {rd:Option Nat} {P:Program} {ops:Array Oper} {Q:Exit->Act->World->Prop} {m:Nat} {om:Oper} {K:Act->World->Prop} {a:Act} {w:World} (hm:ops[m]?=some om)
  (hw:Region.wanted om (yielded ops a.tmps)=true) (h:om.wpIn (FW rd) 0 P a w K Q):wpOpIn (FW rd) 0 P ops Q m K a w:=by grind[wpOpIn]
theorem Sx {rd:Option Nat} {P:Program} {ops:Array Oper} {Q:Exit->Act->World->Prop} {m:Nat} {om:Oper} {K:Act->World->Prop} {a:Act} {w:World} (hm:ops[m]?=some om)
  (hw:Region.wanted om (yielded ops a.tmps)=false) (h:K (a.put om.dst undef) w):wpOpIn (FW rd) 0 P ops Q m K a w:=by
 simp only[wpOpIn,hm,hw,DN,I8];exact⟨λ_ _=>trivial,h⟩
theorem Nc {rd:Option Nat} {P:Program} {ops:Array Oper} {Q:Exit->Act->World->Prop} {m:Nat} {om:Oper} {K:Act->World->Prop} {a:Act} {w w':World} {v:Value} (hm:ops[m]?=some om)
  (hg:om.guard=none) (hr:(execOp a.eval om).run P w=.ok (.value v) w') (h:K (a.put om.dst v) w'):wpOpIn (FW rd) 0 P ops Q m K a w:=
 K6 hm (by grind[Region.wanted]) (KQ hr h)
theorem ai {E:Env} {L:BL} {cf:Cx} {U:Nat->AV} {s:AQ} {o:Oper} {v:AV} (h:Jh E L U s o=some v):OE E L cf U s o=some (v,s):=by grind[TT,PA,nu,Ci]
theorem GR {o o1 o2:Oper} {kf:JF} (h:fused o o1 o2=some kf) :
  o.op=.call { callee:=.builtin .append,args:=#[kf.x,kf.y],argTypes:=#[kf.t,kf.t] }/\o.dst=some kf.d/\o1.op=.indexAddr kf.t (.tmp kf.d) kf.ix/\o1.dst=some kf.p /\
  o2.op=.store kf.te (.tmp kf.p) kf.v/\o2.dst=none/\kf.d≠kf.p/\(o.guard=none/\o1.guard=none/\o2.guard=none)/\kf.ix≠.tmp kf.d/\kf.v≠.tmp kf.d/\kf.v≠.tmp kf.p:=by
 unfold fused at h;split at h
 .rename_i args ts d t1 d1 ix p te p1 v ho hd ho1 hd1 sC TZ
  split at h
  .rename_i x y t t' ha ht
   split at h
   .rename_i hc
    obtain⟨rfl,rfl,rfl,rfl,hne,g1,g2,g3,h1,h2,h3,_⟩:=hc;simp at h;subst h;have Nd:args=#[x,y]:=by rw[<-HL (xs:=args),ha]
    have ht':ts=#[t',t']:=by rw[<-HL (xs:=ts),ht]
    subst Nd ht';have hn:∀(z:Operand) (q:Nat),ML z q=false->z≠.tmp q:=λz q hz e=>by simp_all[ML]
    simp_all
   grind
  grind
 grind
theorem Re {o o1 o2:Oper} {kf:JF} (h:fused o o1 o2=some kf):∀z,z=kf.x\/z=kf.y\/z=kf.ix\/z=kf.v->z≠.tmp kf.d/\z≠.tmp kf.p:=by
 unfold fused at h;split at h
 .split at h
  .split at h
   .rename_i hc
    obtain⟨rfl,rfl,rfl,rfl,hne,g1,g2,g3,h1,h2,h3,h4,h5,h6,h7,h8⟩:=hc;simp at h;subst h;have hn:∀(z:Operand) (q:Nat),ML z q=false->z≠.tmp q:=λz q hz e=>by simp_all[ML]
    grind
   grind
  grind
 grind
theorem Eg {a:Act} {d:Option Tmp} {v:Value} {z:Operand} (h:∀t,z=.tmp t->d≠some t):(a.put d v).eval z=a.eval z:=by
 cases z with
 | tmp t=>exact Qf (h t rfl)
 | const c=>rfl
 | global g=>rfl
 | func f=>rfl
section
variable {rd:Option Nat} {E:Env} {L:BL} {cf:Cx} {ops:Array Oper} {p:Bl} {K N:Nat} {U0 Uf:Nat->AV} {σ:Nat->AQ} {ds:List Deferred} {g0:AP} {w0:World} {Q:Exit->Act->World->Prop}
theorem Kh {m r:Nat} (h:p.cls[m]?=some (.w r)):FG p m=some r:=by grind[FG,KN]
theorem KR {m r j x:Nat} (h:p.cls[m]?=some (.fa r j x)):FG p m=some r:=by grind[FG,KN]
theorem Qg {m:Nat} {ts:List Nat} (h:p.cls[m]?=some (.q ts)):FG p m=none:=by grind[FG,KN]
theorem tL {m:Nat} {ts:List Nat} (h:p.cls[m]?=some (.h ts)):FG p m=none:=by grind[FG,KN]
theorem kQ {m:Nat} (h:p.cls[m]?=some .fj):FG p m=none:=by grind[FG,KN]
theorem kR {m:Nat} (h:p.cls[m]?=some .fx):FG p m=none:=by grind[FG,KN]
theorem Vw.AFo (R:Vw E L cf ops p K N U0 Uf σ) {D:Nat->Prop} (hD:Down ops D) {m r j x:Nat} {om:Oper} (hm:ops[m]?=some om) (hc:p.cls[m]?=some (.fa r j x)) (hr:∀e∈om.after,Region.binds .any e=true->D e.on)
  {o1 o2:Oper} {kf:JF} (h1:ops[j]?=some o1) (h2:ops[x]?=some o2) (hf:fused om o1 o2=some kf) (w1:Hr p.GG m=[]) (w2:Hr p.GG j=[]) :
  ∀z,z=kf.x\/z=kf.y\/z=kf.ix\/z=kf.v->Am Uf z=Am (rho ops U0 Uf D) z:=by
 obtain⟨f1,f2,f3,f4,f5,f6,f7,f8,f9,f10,f11⟩:=GR hf;intro z hz;refine KO λt ht=>?_
 subst ht
 by_cases hw:∃(i:Nat) (o:Oper),ops[i]?=some o/\o.dst=some t
 .obtain⟨i,oi,Sy,oJ⟩:=hw
  have hpre:i∈D3 p m:=by
   by_cases hxy:Operand.tmp t=kf.x\/Operand.tmp t=kf.y
   .have:t∈GQ om:=DV.2 (by grind[Op.operands,Call.operands])
    rcases R.read m i om oi t hm Sy oJ (I9 _ this) with ⟨q1,_⟩|⟨_,q2⟩
    all_goals grind[has]
   .have hiv:Operand.tmp t=kf.ix\/Operand.tmp t=kf.v:=by grind
    by_cases e1:i=m
    .grind
    by_cases e2:i=j
    .subst e2
     rw[h1] at Sy; simp at Sy; subst Sy;rw[f4] at oJ; simp at oJ; subst oJ;rcases hiv with e|e
     .have:kf.p∈GQ o1:=DV.2 (by grind[Op.operands])
      rcases R.read i i o1 o1 kf.p h1 h1 f4 (I9 _ this) with ⟨q1,_⟩|⟨_,q2⟩
      .grind[has]
      .exact absurd (R.tH i o1 i h1 q2) (Oy _)
     grind
    by_cases e3:i=x
    .grind
    refine(R.win m om r j x hm hc i oi Sy e1 e2 e3).2 t oJ ?_
    grind[D9,DV,Op.operands]
  exact(TW Sy oJ (R.Lo hD m om i hm hr hpre)).symm
 .exact(R.TX λi o ho hd=>hw ⟨i,o,ho,hd⟩).symm
theorem aj (R:Vw E L cf ops p K N U0 Uf σ) (Sv:H7 E L cf) {D:Nat->Prop} (hD:Down ops D) {a:Act} {k:Nat} {g:AP} {w:World} (h:Core E L ops p K N U0 Uf σ ds g0 w0 D a k g w) (hsh:∀i,Nw ops p D i)
  (hnp:∀(i:Nat) o ts d id,ops[i]?=some o->p.cls[i]?=some (.h ts)->o.dst=some d->KC (Uf d)=some id->¬ g0.DJ id)
  {m:Nat} {om:Oper} (hm:ops[m]?=some om) (hn:¬ D m) (hr:∀e∈om.after,Region.binds .any e=true->D e.on) :
  wpOpIn (FW rd) 0 E.P ops Q m (J E L ops p K N U0 Uf σ ds g0 w0 (λi=>D i\/i=m)) a w:=by
 have hag:=R.agree hD hm hn hr;obtain⟨c,hc⟩:=R.cls m om hm;have tM:(∀r j x,p.cls[m]?≠some (.fa r j x))->∀i,Nw ops p (λi=>D i\/i=m) i:=λhnf i=>Nw.more hm hnf (hsh i)
 have Ey:∀(g':AP),(∀id,g.DJ id->g'.DJ id)->∀(i:Nat) o ts d id,ops[i]?=some o->p.cls[i]?=some (.h ts)->o.dst=some d->KC (Uf d)=some id->¬ D i->i≠m->g'.DJ id:=
  λg' hg i o ts d id ho Ht hd hid hnD _=>hg id (h.DJ i o ts d id ho Ht hd hid hnD)
 cases c with
 | w r=>
  have hk:=h.now R hD hm hn hr (Kh hc);subst hk;obtain⟨v,hact,hv⟩:=R.wF m om r hm hc;rw[<-OK hag] at hact;unfold OG at hact;have hs:=tM (λ_ _ _ e=>by grind);split at hact
  .rename_i hg
   refine K6 hm (DM h.tmps hg) (OM Sv h.inv h.tmps hact λv' w' g' hV hE hI=>?_);exact⟨r+1,g',w',h.push R hm (.inr ⟨Kh hc,rfl⟩) (h.ext.trans hE) (λ_ _ q=>q.mono hE) hI (λd hd=>by grind) (Ey g' hE.DJ),.inl ⟨rfl,hs⟩⟩
  .rename_i hg
   simp only[BN,BU] at hact;obtain⟨rfl,hst⟩:=hact;refine Sx hm (DM h.tmps hg) ?_;exact⟨r+1,g,w,h.push R hm (.inr ⟨Kh hc,rfl⟩) h.ext (λ_ _ q=>q) (hst ▸ h.inv) (λd hd=>by grind[V.undef]) (Ey g λ_ q=>q),.inl ⟨rfl,hs⟩⟩
  grind
 | q ts=>
  obtain⟨v,hq,hv⟩:=R.qF m om ts k hm hc (h.tK R hD hm hn hr (.inl hc));rw[<-JJ hag] at hq;unfold FN at hq;have hs:=tM (λ_ _ _ e=>by grind);split at hq
  .rename_i hg
   refine K6 hm (DM h.tmps hg) (OM Sv h.inv h.tmps (ai hq) λv' w' g' hV hE hI=>?_);exact⟨k,g',w',h.push R hm (.inl ⟨Qg hc,rfl⟩) (h.ext.trans hE) (λ_ _ q=>q.mono hE) hI (λd hd=>by grind) (Ey g' hE.DJ),.inl ⟨rfl,hs⟩⟩
  .rename_i hg
   simp only[BN] at hq;subst hq;refine Sx hm (DM h.tmps hg) ?_;exact⟨k,g,w,h.push R hm (.inl ⟨Qg hc,rfl⟩) h.ext (λ_ _ q=>q) h.inv (λd hd=>by grind[V.undef]) (Ey g λ_ q=>q),.inl ⟨rfl,hs⟩⟩
  grind
 | h ts=>
  obtain⟨hg,d,cs,mk,id,hd,hh,hmk,rz⟩:=R.hF m om ts hm hc;have hcs:=rz k (h.tK R hD hm hn hr (.inr hc));rw[<-PI (λt ht=>hag t (I9 _ ht))] at hh;obtain⟨vs,e,mv,hrun,hvl,hV,hid⟩:=Yz h.tmps hh;have ANT:g.DJ id:=h.DJ m om ts d id hm hc hd AB hn;obtain⟨p1,p2,p3⟩:=h.inv.Dw id ANT;obtain⟨e2,i2⟩:=h.inv.fill (L:=L) (id:=id) (q:=λi=>g.DJ i/\i≠id) (cs:=cs) (vs:=vs) (λ_=>Iff.rfl) e p1 p2 p3 (λb hb=>(h.inv.MM id b hb).2.2 ANT) hcs hvl.full.1 hvl.full.2;have e1:Ext L g0 w0 (g.CE λi=>g.DJ i/\i≠id) w:=h.ext.CE λi hi=>⟨h.ext.DJ i hi,λq=>hnp m om ts d id hm hc hd AB (q ▸ hi)⟩
  refine Nc hm hg hrun ⟨k,_,_,h.push R hm (.inl ⟨tL hc,rfl⟩) (e1.trans e2) (λ_ _ q=>q.CE.mono e2) i2 (λd' hd'=>?_) ?_,.inl ⟨rfl,tM (λ_ _ _ e=>by grind)⟩⟩
  .rw[hd] at hd'; simp at hd'; subst hd'
   rw[hmk];exact hV _ _ id w.heap.size (by simp[AP.F3]) (Bv (by rw[CL]; exact if_pos rfl))
  .intro i o ts' d' id' ho Ht oJ ANU hnD hne
   refine⟨h.DJ i o ts' d' id' ho Ht oJ ANU hnD,λq=>hne ?_⟩;subst q;exact R.ANQ i m o om ts' ts d' d id' ho hm Ht hc oJ hd ANU AB
 | fa r j x=>
  have hk:=h.now R hD hm hn hr (KR hc);subst hk;obtain⟨o1,o2,kf,h1,h2,c1,c2,hf,w1,w2,w3,p1,p2,p3,v,PJ,hvd,hvp⟩:=R.tF m om r j x hm hc;have AAU:=R.AFo hD hm hc hr h1 h2 hf w1 w2;obtain⟨f1,f2,f3,f4,f5,f6,f7,f8,f9,f10,f11⟩:=GR hf;have hVx:=Av h.tmps kf.x;have hVy:=Av h.tmps kf.y;have hVi:=Av h.tmps kf.ix;have hVv:=Av h.tmps kf.v;rw[<-AAU _ (.inl rfl)] at hVx;rw[<-AAU _ (.inr (.inl rfl))] at hVy;rw[<-AAU _ (.inr (.inr (.inl rfl)))] at hVi;rw[<-AAU _ (.inr (.inr (.inr rfl)))] at hVv;cases s8:Jg E L Uf (σ r) kf with
  | some res=>
   have PJ:Jg E L Uf (σ r) kf=some (v,σ (r+1)):=by grind[K0]
   unfold Jg at PJ;split at PJ
   .rename_i elem hu
    split at PJ
    .rename_i Yl
     split at PJ
     .rename_i ti rows z n row fO hrows hz sD hrow
      split at PJ
      .rename_i hcnd
       obtain⟨q1,q2,q3,q4,q5,q6,q7⟩:=hcnd;have hvl:=Ej hVv q4;obtain⟨t1,t2⟩:=G5 hvl hrow;obtain⟨b,cap,vz,e,fz,w1',wv',g',a1,a2,a3,a4,a5,a6,a7,a8⟩:=Mj (T:=om.type) h.inv hu fO q6 q7 hVx hrows hVy hz q2 q5 (us:=(a.eval kf.v).cells.toList) AA q3 t2 PJ;obtain⟨kk,TN⟩:=FP hVi sD;have hrun:(execOp a.eval om).run E.P w=.ok (.value (.slice (some ⟨b,0,none⟩) (rows.length+1) cap)) w1':=by simp[*,execOp,resolve,invoke,builtin]
       have hnj:¬ (D j\/j=m):=λq=>q.elim (λq=>hn (R.Ml hD h1 q p1)) (λq=>by grind)
       have hnx:¬ (D x\/x=m):=λq=>q.elim (λq=>hn (R.Ml hD h2 q p3)) (λq=>by grind)
       refine Nc hm f8.1 hrun ⟨r+1,g',wv',h.push R hm (.inr ⟨KR hc,rfl⟩) (h.ext.trans a3) (λ_ _ q=>q.mono a3) a4 (λd hd=>?_) (Ey g' a3.DJ),.inr ?_⟩
       .grind
       .refine⟨m,om,r,j,x,o1,o2,kf,hm,hc,h1,h2,hf,.inr rfl,hnx,?_,b,cap,rows.length,vz,e,fz,a.eval kf.v,kk,elem,ti,hu,fO,Yl.2,?_,?_,?_,?_,?_,a5,a6,?_,.inl a8,λq=>absurd q hnj⟩
        .intro i' o' r' j' x' ho' K7 hi' hne
         rcases hi' with hi' | hi'
         .exact .inl (hsh m i' o' r' j' x' ho' K7 hi' hne)
         omega
        .rw[f2]; exact Jo (by rw[h.size]; exact R.tG m om kf.d hm f2)
        .grind[Eg]
        all_goals grind[Eg,VL.one]
      grind
     grind
    grind
   grind
  | none=>
   unfold K0 at PJ;rw[s8] at PJ;simp only at PJ;unfold We at PJ;split at PJ
   .rename_i elem hu
    split at PJ
    .rename_i Yl
     split at PJ
     .rename_i ti id off len sz n fO hxe sD
      split at PJ
      .rename_i zs old hzs hold
       split at PJ
       .rename_i hcnd
        obtain⟨q1,q2,q3,q4,q5,q6,q7,rfl,rfl,q8,q9,q10,q11,q12⟩:=hcnd;simp only[BN,BU] at PJ;obtain⟨hfv,hfs⟩:=PJ;have hvl:=Ej hVv q4;rw[hxe] at hVx;obtain⟨b,cap,vz,e,fz,w1',wv',g',a1,a2,a3,a4,a5,a6,a7,a8⟩:=gB (L:=L) (T:=om.type) h.inv hu fO q6 q7 hVx hVy hzs q2 q5 hold q8 q9 q10 q11 q12 (us:=(a.eval kf.v).cells.toList) (by rw[<-hvl.len]; omega) hvl;rw[hfs] at a4;obtain⟨kk,TN⟩:=FP hVi sD;have hrun:(execOp a.eval om).run E.P w=.ok (.value (.slice (some ⟨b,0,none⟩) (len+1) cap)) w1':=by simp[*,execOp,resolve,invoke,builtin]
        have hnj:¬ (D j\/j=m):=λq=>q.elim (λq=>hn (R.Ml hD h1 q p1)) (λq=>by grind)
        have hnx:¬ (D x\/x=m):=λq=>q.elim (λq=>hn (R.Ml hD h2 q p3)) (λq=>by grind)
        refine Nc hm f8.1 hrun ⟨r+1,g',wv',h.push R hm (.inr ⟨KR hc,rfl⟩) (h.ext.trans a3) (λ_ _ q=>q.mono a3) a4 (λd hd=>?_) (Ey g' a3.DJ),.inr ?_⟩
        .grind
        .refine⟨m,om,r,j,x,o1,o2,kf,hm,hc,h1,h2,hf,.inr rfl,hnx,?_,b,cap,len,vz,e,fz,a.eval kf.v,kk,elem,ti,hu,fO,Yl.2,?_,?_,?_,?_,?_,a5,a6,?_,.inr ⟨_,_,_,_,by rw[hvd]; exact hfv.symm,a8,by grind[QX]⟩,λq=>absurd q hnj⟩
         .intro i' o' r' j' x' ho' K7 hi' hne
          rcases hi' with hi' | hi'
          .exact .inl (hsh m i' o' r' j' x' ho' K7 hi' hne)
          omega
         .rw[f2]; exact Jo (by rw[h.size]; exact R.tG m om kf.d hm f2)
         .grind[Eg]
         .grind[Eg]
         .rw[<-IG,<-hvl.len]; omega
         .grind[VL.one]
         .have:=a7; rw[<-hvl.len,q3] at this; omega
       grind
      grind
     grind
    grind
   grind
 | fj=>
  obtain⟨i,o,r,x,ho,Ht⟩:=R.ANO m om hm hc;obtain⟨o1,o2,kf,h1,h2,c1,c2,hf,w1,w2,w3,p1,p2,p3,_⟩:=R.tF i o r m x ho Ht;have oK:=R.Lo hD m om i hm hr p1;have hDx:=hsh m i o r m x ho Ht oK (λe=>by grind);exact absurd (R.Ml hD h2 hDx p2) hn
 | fx=>
  obtain⟨i,o,r,j,ho,Ht⟩:=R.ANP m om hm hc;obtain⟨o1,o2,kf,h1,h2,c1,c2,hf,w1,w2,w3,p1,p2,p3,_⟩:=R.tF i o r j m ho Ht;have oK:=R.Lo hD m om i hm hr p3;exact absurd (hsh m i o r j m ho Ht oK (λe=>by grind)) hn
end
end Go.Tel
