/-
  A told call: slices.Insert of one element of one cell.
-/
import Derived.Test.YtpgfpakdnijngaaGreatDoorTenJ
import Derived.Laws.Externs
import GoSem.Extern.SlicesOverlaps
set_option linter.unusedSimpArgs false
set_option linter.unusedVariables false
namespace Go.Tel
def Xs (L:A0) (args:List AV) (s:AK):Option (AV×AK):=match args with
 | [x,.pv (.sc (.int .i64 (.ofNat i))),.AA [[c]]]=>match x with
  | .ref id 0 len 1=>match s.bs[id]? with
   | some cs=>
    bif Ar (.pv c)&&(Nat.beq len cs.length&&(Nat.ble 1 len&&(Nat.ble i len&&(Nat.ble len 1000000000&&(Nat.ble L.ro id&&cs.all Ar))))) then
     some (.ref s.bs.length 0 (len+1) 1,{ s with bs:=s.bs.set id []++[cs.take i++.pv c::cs.drop i] })
    else none
   | none=>none
  | .AA []=>bif Nat.beq i 0&&Ar (.pv c) then some (.ref s.bs.length 0 1 1,{ s with bs:=s.bs++[[.pv c]] }) else none
  | _=>none
 | _=>none
theorem Xt {P:Program} {w:World} {params results:Array TypeId} {t e:TypeId} {i:TypeInfo} {yb yo b o n m c1 c2:Nat} {y:Value} {vs:List Value} {et:TypeId} (hp:params[0]?=some t) (ht:P.underlying t=some (.slice e)) (hi:P.info? e=some i) (h1:i.size=1)
  (hy:w.cell? ⟨yb,yo,none⟩=some y) (hb:w.heap[b]?=some (.cells ⟨vs⟩ et (0,0))) (hv:vs≠[]) (hne:yb≠b) :
  (Extern.SlicesOverlaps.overlaps params results #[.slice (some ⟨yb,yo,none⟩) n c1,.slice (some ⟨b,o,none⟩) m c2]).run P w=.ok (.bool false) w:=by
 have hys:∃ ey ny,w.shape? yb=some (ey,ny+1):=by
  unfold World.cell? at hy;unfold World.shape?;split at hy
  ·rename_i cs ey fz h
   rw[h];simp only at hy
   have:yo<cs.size:=by
    rcases CU yo cs.size with k|k
    ·exact k
    ·simp[ID k] at hy
   exact⟨ey,cs.size-1,by simp; omega⟩
  ·simp at hy
 obtain⟨ey,ny,hys⟩:=hys;have Xq:w.shape? b=some (et,vs.length):=Be hb;have hfz:∀ o,w.frozen? ⟨b,o,none⟩=false:=fun o=>by simp[World.frozen?,hb]
 have hvl:vs.length≠0:=by simpa using hv
 have hd:Extern.SlicesOverlaps.overlaps params results #[.slice (some ⟨yb,yo,none⟩) n c1,.slice (some ⟨b,o,none⟩) m c2]=(do
   let some t:=params[0]? | stuck "slices.overlaps: no parameter types"
   let .slice elem <-underlying t|stuck "slices.overlaps: slice type expected"
   let size <-sizeOf elem
   if n=0\/m=0\/size=0 then pure (.bool false)
   else if yb != b&&(<-frozen ⟨yb,yo,none⟩)&&(<-frozen ⟨b,o,none⟩) then unsupported .addressObserved
   else do
    if yb != b then do
     noView ⟨yb,yo,none⟩; noView ⟨b,o,none⟩
     if <-mayBeOne ⟨yb,yo,none⟩ ⟨b,o,none⟩ then return .bool ((<-choose (.extern "sameAddr.stringBytes" 2))==1)
    pure (.bool (yb==b&&yo<o+m*size&&o<yo+n*size))):=rfl
 rw[hd];simp[hp,run_underlying ht,run_sizeOf hi,h1,hne,hfz,noView,viewAt,mayBeOne,stringish,hys,Xq,hvl]
structure AH6 (P:Program) (f fo:FuncId) (t e ti:TypeId):Prop where
 body:LR P f
 ht:P.underlying t=some (.slice e)
 Oh:P.underlying ti=some (.int .i64)
 info:∃ i z,P.info? e=some i/\i.size=1/\i.bytes<=16/\i.zero=some z/\z.cells=#[z]/\z.oneCell'=true
 zero:∃ z,zeroOf P e=some [z]
 AH7:∀ (w w1:World) (s:Option Addr) (len cap yb yo Gx:Nat) (v1:Value),len<=cap ->
  (Builtin.append_ #[t,t] t #[.slice s len cap,.slice (some ⟨yb,yo,none⟩) 1 Gx]).run P w=.ok v1 w1 ->
  Calls P f #[.slice s len cap,.int .i64 len,.slice (some ⟨yb,yo,none⟩) 1 Gx] w fun e' w'=>e'=.returned v1/\w'=w1
 ov:∀ (w:World) (yb yo Gx b o m c2:Nat) (y:Value) (vs:List Value) (et:TypeId),w.cell? ⟨yb,yo,none⟩=some y->w.heap[b]?=some (.cells ⟨vs⟩ et (0,0))->vs≠[]->yb≠b ->
  (callFunc fo #[.slice (some ⟨yb,yo,none⟩) 1 Gx,.slice (some ⟨b,o,none⟩) m c2]).run P w=.ok (.value (.bool false)) w
 AAk:∀ (w:World) (b len cap yb yo Gx i:Nat),len<=1000000000000000000->len+1<=cap->i<len->∀ (w1 w2:World),
  (callFunc fo #[.slice (some ⟨yb,yo,none⟩) 1 Gx,.slice (some ⟨b,i+1,none⟩) (len-i) (cap-(i+1))]).run P w=.ok (.value (.bool false)) w ->
  (Builtin.copy_ #[t,t] ti #[.slice (some ⟨b,i+1,none⟩) (len-i) (cap-(i+1)),.slice (some ⟨b,i,none⟩) (len+1-i) (cap-i)]).run P w.drew=.ok (goInt (len-i:Nat)) w1 ->
  (Builtin.copy_ #[t,t] ti #[.slice (some ⟨b,i,none⟩) (len+1-i) (cap-i),.slice (some ⟨yb,yo,none⟩) 1 Gx]).run P w1=.ok (goInt (1:Nat)) w2 ->
  Calls P f #[.slice (some ⟨b,0,none⟩) len cap,.int .i64 i,.slice (some ⟨yb,yo,none⟩) 1 Gx] w fun e' w'=>e'=.returned (.slice (some ⟨b,0,none⟩) (len+1) cap)/\w'=w2
 AAl:∀ (w:World) (b len cap yb yo Gx i sz KR:Nat),len<=1000000000000000000->len<=cap->cap<len+1->i<len->len+1<=KR->∀ (w1 w2 w3:World),
  (Builtin.append_ #[t,ti] t #[.slice (some ⟨b,0,none⟩) i cap,.int .i64 ((len:Int)+1-(i:Int))]).run P w=.ok (.slice (some ⟨sz,0,none⟩) (len+1) KR) w1 ->
  (Builtin.copy_ #[t,t] ti #[.slice (some ⟨sz,i,none⟩) (len+1-i) (KR-i),.slice (some ⟨yb,yo,none⟩) 1 Gx]).run P w1=.ok (goInt (1:Nat)) w2 ->
  (Builtin.copy_ #[t,t] ti #[.slice (some ⟨sz,i+1,none⟩) (len-i) (KR-(i+1)),.slice (some ⟨b,i,none⟩) (len-i) (cap-i)]).run P w2.drew=.ok (goInt (len-i:Nat)) w3 ->
  Calls P f #[.slice (some ⟨b,0,none⟩) len cap,.int .i64 i,.slice (some ⟨yb,yo,none⟩) 1 Gx] w fun e' w'=>e'=.returned (.slice (some ⟨sz,0,none⟩) (len+1) KR)/\w'=w3
theorem GJ {P:Program} {w:World} {b o n m cap:Nat} (us:List Value) (hl:us.length=n) (h:∀ (j:Nat) u,us[j]?=some u->w.cell? ⟨b,o+j,none⟩=some u) :
  (Builtin.firstCells 1 n (.slice (some ⟨b,o,none⟩) m cap)).run P w=.ok us.toArray w:=by
 have:=Em (P:=P) us h;simp only[Builtin.firstCells,Mm];rw[<-hl];exact this
theorem tA (vs:List Value) (c:Value) (i len:Nat) (hi:i<=len) (hl:len+1<=vs.length) :
  (Bt (Bt vs (i+1) ((vs.drop i).take (len-i))) i [c]).take (len+1)=(vs.take len).take i++c::(vs.take len).drop i:=by
 have h1:((vs.drop i).take (len-i)).length=len-i:=by simp; omega
 have hA:((vs.take len).take i).length=i:=by simp; omega
 have hM:(Bt vs (i+1) ((vs.drop i).take (len-i))).length=vs.length:=BJ _ _ _;apply K8;intro q;rw[CT]
 by_cases hq:q<len+1
 ·rw[if_pos hq]
  rcases Nat.lt_trichotomy q i with h|h|h
  ·rw[Ef _ _ _ _ (.inl h),Ef _ _ _ _ (.inl (by omega)),BA (by rw[hA]; exact h),CT,if_pos h,CT,if_pos (by omega)]
  ·subst h
   have:(Bt (Bt vs (q+1) ((vs.drop q).take (len-q))) q [c])[q]?=some c:=FK [c] (Bt vs (q+1) ((vs.drop q).take (len-q))) q 0 c rfl (by rw[hM]; simp; omega);rw[this,CV (by rw[hA]; exact AL _),hA,Rg];rfl
  ·obtain⟨r,rfl⟩:∃ r,q=i+1+r:=⟨q-i-1,by omega⟩
   have hr:r<((vs.drop i).take (len-i)).length:=by rw[h1]; omega
   rw[Ef _ _ _ _ (.inr (by simp only[A3,BV]; omega)),FK _ vs (i+1) r _ (Ak hr) (by rw[h1]; omega),CV (by rw[hA]; omega),hA];have e3:i+1+r-i=r+1:=by omega
   rw[e3,FN,GM,CT,if_pos (by omega)];rw[<-Ak hr];rw[CT,if_pos (by omega)]
   try rw[GM]
 ·rw[if_neg hq,Ea]
  simp;omega
theorem mW (A vs:List Value) (c:Value) (i len:Nat) (hi:i<=len) (hl:len<=vs.length) (hA:len+1<=A.length) (hp:A.take i=vs.take i) :
  (Bt (Bt A i [c]) (i+1) ((vs.drop i).take (len-i))).take (len+1)=(vs.take len).take i++c::(vs.take len).drop i:=by
 have h1:((vs.drop i).take (len-i)).length=len-i:=by simp; omega
 have hB:((vs.take len).take i).length=i:=by simp; omega
 have hM:(Bt A i [c]).length=A.length:=BJ _ _ _;apply K8;intro q;rw[CT]
 by_cases hq:q<len+1
 ·rw[if_pos hq]
  rcases Nat.lt_trichotomy q i with h|h|h
  ·rw[Ef _ _ _ _ (.inl (by omega)),Ef _ _ _ _ (.inl h),BA (by rw[hB]; exact h),CT,if_pos h,CT,if_pos (by omega)]
   have:=BW (fun l=>l[q]?) hp;simp only[CT,if_pos h] at this;exact this
  ·subst h
   have:(Bt A q [c])[q]?=some c:=FK [c] A q 0 c rfl (by simp; omega);rw[Ef _ _ _ _ (.inl (by omega)),this,CV (by rw[hB]; exact AL _),hB,Rg];rfl
  ·obtain⟨r,rfl⟩:∃ r,q=i+1+r:=⟨q-i-1,by omega⟩
   have hr:r<((vs.drop i).take (len-i)).length:=by rw[h1]; omega
   rw[FK _ _ (i+1) r _ (Ak hr) (by rw[h1,hM]; omega),CV (by rw[hB]; omega),hB];have e3:i+1+r-i=r+1:=by omega
   rw[e3,FN,GM,CT,if_pos (by omega)];rw[<-Ak hr];rw[CT,if_pos (by omega)]
   try rw[GM]
 ·rw[if_neg hq,Ea]
  simp;omega
theorem yX {E:Env} {f fo:FuncId} {t e ti:TypeId} (hc:AH6 E.P f fo t e ti):P0 E f Xs:=by
 intro L args s s' v g w vs h hI hargs;refine⟨hc.body,?_⟩;obtain⟨i0,z,hi,hs1,hby,hz,hzc,hzo⟩:=hc.info;obtain⟨zz,hzz⟩:=hc.zero;unfold Xs at h;split at h
 ·rename_i x i c
  obtain⟨u,us,rfl,hu,hn⟩:=hargs.cases;obtain⟨u1,us1,rfl,hu1,hn1⟩:=hn.cases;obtain⟨u2,us2,rfl,hu2,hn2⟩:=hn1.cases;have:=hn2.Ee; subst this;have:=hu1.CM; subst this;have hyV:=hu2;cases hu2 with
  | @AA _ base yb yo ysz ff hr=>
   have AQQ:ysz=1:=by simpa using(hr.hsz [c] (by simp)).symm
   subst AQQ;have:=hr.hbase (by simp) (by omega);subst this;obtain⟨hyI,hyc⟩:=hr.hc 0 [c] 0 c rfl rfl;have hyv:=hr.hv 0 [c] 0 c rfl rfl;simp only[Ml,Dq] at hyI hyc;simp only[A3,BV,CJ] at hyV hargs ⊢;generalize hy0:ff 0 0=yv at hyc hyv
   have zi:∀ (x u:_) (r:AV) (s1:AK) (sb:Option Addr) (len cap:Nat),V g w x u->u=.slice sb len cap->len<=cap->I5 E.P ⟨L.n0,L.ro,L.rt,fun _=>true,L.rr,L.pl⟩ s t x (.AA [[c]])=some (r,s1) ->
     Calls E.P f #[u,.int .i64 len,.slice (some ⟨yb,yo,none⟩) 1 1] w fun e w'=>∃ v' g',e=.returned v'/\V g' w' r v'/\Ext L g w g' w'/\Inv E g' w' s1:=by
    intro x u r s1 sb len cap hx he hlc ha;obtain⟨v',w',g',k1,k2,k3,k4⟩:=NU (T:=t) (u:=t) (ts:=[]) hI hx hyV hc.ht (by intro k; simp) ha;subst he;refine(hc.AH7 w w' sb len cap yb yo 1 v' hlc k1).mono ?_;rintro e w'' ⟨rfl,rfl⟩;exact⟨v',g',rfl,k2,k3.Ao rfl rfl,k4⟩
   split at h
   ·rename_i id len
    split at h
    ·rename_i cs hcs
     cases MC:(Ar (.pv c)&&(Nat.beq len cs.length&&(Nat.ble 1 len&&(Nat.ble i len&&(Nat.ble len 1000000000&&(Nat.ble L.ro id&&cs.all Ar)))))) with
     | false=>rw[MC] at h; simp at h
     | true=>
      rw[MC] at h;simp only[AE,AY,Af] at h;obtain⟨rfl,rfl⟩:=h;simp only[AG] at MC;obtain⟨b1,b2,b3,b4,b5,b6,b7⟩:=MC;have b2:=BM b2;have b3:=Cm b3;have b4:=Cm b4;have b5:=Cm b5;have b6:=Cm b6;have ABa:yv.oneCell'=true:=JV (.pv hyv) b1;cases hu with
      | I8 hd=>
       have:=hI.DM id hd;rw[hcs] at this;simp only[AY] at this;subst this;simp at b2;omega
      | @ref _ _ _ _ b cap n te F2 hcap hsh cq=>
       obtain⟨cs',vs,e',k1,k2,wM,k3⟩:=hI.blk id b F2;rw[hcs] at k1; simp only[AY] at k1; subst k1;rw[Be k2] at hsh;simp only[AY,Af] at hsh;obtain⟨he,hnv⟩:=hsh;subst he hnv;have hcv:cap<=vs.length:=by simpa using cq
       have hne:yb≠b:=fun q=>hI.FT id b yo F2 (q ▸ hyI)
       have hvs:vs≠[]:=fun q=>by rw[q] at hcv; simp at hcv; omega
       have hone:∀ u∈vs.take len,u.oneCell'=true:=by rw[b2]; exact k3.one b7
       have hM1:((vs.drop i).take (len-i)).length=len-i:=by simp; omega
       have ABb:∀ u∈(vs.drop i).take (len-i),u.oneCell'=true:=fun u hu=>hone u (by
        have:(vs.drop i).take (len-i)=(vs.take len).drop i:=by rw[List.drop_take]
        rw[this] at hu;exact List.mem_of_mem_drop hu)
       have Bu:(cs.take i++AV.pv c::cs.drop i).length=len+1:=by simp; omega
       have k3':VL g w cs (vs.take len):=by rw[b2]; exact k3
       have ALY:∀ (w2:World) (e2:Ext L g w g w2),VL g w2 (cs.take i++AV.pv c::cs.drop i) ((vs.take len).take i++yv::(vs.take len).drop i):=fun w2 e2=>
        ((k3'.mono e2).take i).append (.cons ((V.pv hyv).mono e2) ((k3'.mono e2).drop i))
       by_cases hil:i=len
       ·subst hil
        have ha:I5 E.P ⟨L.n0,L.ro,L.rt,fun _=>true,L.rr,L.pl⟩ s t (.ref id 0 i 1) (.AA [[c]])=some (.ref s.bs.length 0 (i+1) 1,{ s with bs:=s.bs.set id []++[cs.take i++AV.pv c::cs.drop i] }):=by
         have hal:alive s id=true:=by
          unfold alive;rw[hcs];cases cs with
          | nil=>simp at b2; omega
          | cons a l=>rfl
         unfold I5;have AQT:(i+1)*i0.bytes<=2 ^ 45:=Bh (EO _ hby) (by omega);simp[hc.ht,hi,hzz,hs1,C8,rowsOf,b1,hcs,hal,b2,b6];refine⟨?_,?_⟩
         ·rw[<-b2]; simpa using AQT
         ·omega
        exact zi _ _ _ _ _ i cap (.ref F2 hcap (Be k2) (by simpa using hcv)) rfl hcap ha
       ·have hlt:i<len:=by omega
        by_cases hroom:len+1<=cap
        ·have k2d:w.drew.heap[b]?=some (.cells ⟨vs⟩ e' (0,0)):=k2
         have LU:=PZ (P:=E.P) (w:=w.drew) (t:=t) (u:=t) (elem:=e) (T:=ti) (i:=i0) (b:=b) (o:=i+1) (dl:=len-i) (dc:=cap-(i+1)) (x:=.slice (some ⟨b,i,none⟩) (len+1-i) (cap-i)) (n:=len+1-i) (us:=(vs.drop i).take (len-i)) (vs:=vs) (et:=e') hc.ht hi hs1
          (by simp[Builtin.lenOf]) (by
           rw[show Nat.min (len+1-i) (len-i)=len-i from Nat.min_eq_right (by omega)]
           exact GJ _ hM1 (fun j u hj=>by
            rw[Bd k2d];rw[CT] at hj;split at hj
            ·rw[GM] at hj; exact hj
            ·simp at hj)) ABb k2d (by rw[hM1]; omega)
         rw[show Nat.min (len+1-i) (len-i)=len-i from Nat.min_eq_right (by omega)] at LU
         have k2e:(A2 w.drew b (Bt vs (i+1) ((vs.drop i).take (len-i))) e').heap[b]?=some (.cells ⟨Bt vs (i+1) ((vs.drop i).take (len-i))⟩ e' (0,0)):=by
          rw[BR,if_pos rfl,if_pos (EI k2d)]
         have Qs:=PZ (P:=E.P) (w:=A2 w.drew b (Bt vs (i+1) ((vs.drop i).take (len-i))) e') (t:=t) (u:=t) (elem:=e) (T:=ti) (i:=i0) (b:=b) (o:=i) (dl:=len+1-i) (dc:=cap-i) (x:=.slice (some ⟨yb,yo,none⟩) 1 1) (n:=1) (us:=[yv]) (vs:=Bt vs (i+1) ((vs.drop i).take (len-i))) (et:=e') hc.ht hi hs1
          (by simp[Builtin.lenOf]) (by
           rw[show Nat.min 1 (len+1-i)=1 from Jy (by omega)]
           exact GJ [yv] rfl (fun j u hj=>by
            cases j with
            | zero=>
             simp at hj; subst hj;rw[Dq,Bn (w:=w) (by rw[BR,if_neg (Ce hne)]; rfl)];exact hyc
            | succ j=>simp at hj)) (by simpa using ABa) k2e (by rw[BJ]; simp; omega)
         rw[show Nat.min 1 (len+1-i)=1 from Jy (by omega),EW] at Qs;refine(hc.AAk w b len cap yb yo 1 i (by omega) hroom hlt _ _ (hc.ov w yb yo 1 b (i+1) (len-i) (cap-(i+1)) yv vs e' hyc k2 hvs hne) LU Qs).mono ?_;rintro ex w' ⟨rfl,rfl⟩;obtain⟨e1,i1⟩:=hI.drew (L:=L);have RL:=tA vs yv i len b4 (by omega)
         obtain⟨r1,r2⟩:=i1.oM (L:=L) (cs':=cs.take i++AV.pv c::cs.drop i) (vs':=Bt (Bt vs (i+1) ((vs.drop i).take (len-i))) i [yv]) F2 k2d (by rw[BJ,BJ]) b6
          (by rw[Bu,BJ,BJ]; omega) (by rw[Bu,RL]; exact ALY _ e1)
         refine⟨_,_,rfl,?_,e1.trans r1,r2⟩;refine V.ref (n:=vs.length) (e:=e') (by simp[AH.F1]) hroom ?_ (by simpa using hcv)
         have ZG:(A2 (A5 w) b (Bt (Bt vs (i+1) ((vs.drop i).take (len-i))) i [yv]) e').heap[b]?=some (.cells ⟨Bt (Bt vs (i+1) ((vs.drop i).take (len-i))) i [yv]⟩ e' (0,0)):=by
          rw[BR,if_pos rfl,if_pos (show b<(A5 w).heap.size from EI k2d)]
         have:=Be ZG;rw[BJ,BJ] at this;exact this
        ·have AGT:(vs.take i).length=i:=by simp; omega
         obtain⟨KR,rest,NT,Pc,hrun⟩:=RV (P:=E.P) (w:=w) (T:=t) (base:=some ⟨b,0,none⟩) (sLen:=i) (sCap:=cap) (n:=len+1-i) (os:=vs.take i) hc.ht hi hc.Oh hs1 hz hzc
          (GJ _ AGT (fun j u hj=>by
           have:=Bd (w:=A5 w) (o:=0+j) k2;rw[this,CJ];rw[CT] at hj;split at hj
           ·exact hj
           ·simp at hj)) (by omega) (by omega) (by omega) (Bh (EO _ hby) (by omega)) (by omega)
         have e1:i+(len+1-i)=len+1:=by omega
         have e2:((len+1-i:Nat):Int)=(len:Int)+1-(i:Int):=by omega
         rw[e1] at NT Pc hrun;rw[e2] at hrun;have hsz:b<w.heap.size:=EI k2
         have hAl:(vs.take i++List.replicate (len+1-i) z++rest).length=KR:=by
          simp only[Ab,AGT,List.length_replicate,Pc]; omega
         have hAt:(vs.take i++List.replicate (len+1-i) z++rest).take i=vs.take i:=by
          rw[DI,Re AGT]
         have hw1:(CO (A5 w) (vs.take i++List.replicate (len+1-i) z++rest) e).heap[w.heap.size]?=some (.cells ⟨vs.take i++List.replicate (len+1-i) z++rest⟩ e (0,0)):=by
          rw[Bm,if_pos (show w.heap.size=(A5 w).heap.size from rfl)]
         have hyb:yb<w.heap.size:=hI.Il _ _ hyI
         have LU:=PZ (P:=E.P) (w:=CO (A5 w) (vs.take i++List.replicate (len+1-i) z++rest) e) (t:=t) (u:=t) (elem:=e) (T:=ti) (i:=i0) (b:=w.heap.size) (o:=i) (dl:=len+1-i) (dc:=KR-i) (x:=.slice (some ⟨yb,yo,none⟩) 1 1) (n:=1) (us:=[yv]) (et:=e) hc.ht hi hs1
          (by simp[Builtin.lenOf]) (by
           rw[show Nat.min 1 (len+1-i)=1 from Jy (by omega)]
           exact GJ [yv] rfl (fun j u hj=>by
            cases j with
            | zero=>
             simp at hj; subst hj;rw[Dq,Bn (w:=w) (Aw (w:=A5 w) hyb)];exact hyc
            | succ j=>simp at hj)) (by simpa using ABa) hw1 (by rw[hAl]; simp; omega)
         have hpp:A2 (CO (A5 w) (vs.take i++List.replicate (len+1-i) z++rest) e) w.heap.size (Bt (vs.take i++List.replicate (len+1-i) z++rest) i [yv]) e=CO (A5 w) (Bt (vs.take i++List.replicate (len+1-i) z++rest) i [yv]) e:=
          Gm (w:=A5 w)
         rw[show Nat.min 1 (len+1-i)=1 from Jy (by omega),hpp] at LU
         have hw2:(CO (A5 w) (Bt (vs.take i++List.replicate (len+1-i) z++rest) i [yv]) e).drew.heap[w.heap.size]?=some (.cells ⟨Bt (vs.take i++List.replicate (len+1-i) z++rest) i [yv]⟩ e (0,0)):=by
          show(CO (A5 w) (Bt (vs.take i++List.replicate (len+1-i) z++rest) i [yv]) e).heap[w.heap.size]?=_
          rw[Bm,if_pos (show w.heap.size=(A5 w).heap.size from rfl)]
         have Qs:=PZ (P:=E.P) (w:=(CO (A5 w) (Bt (vs.take i++List.replicate (len+1-i) z++rest) i [yv]) e).drew) (t:=t) (u:=t) (elem:=e) (T:=ti) (i:=i0) (b:=w.heap.size) (o:=i+1) (dl:=len-i) (dc:=KR-(i+1)) (x:=.slice (some ⟨b,i,none⟩) (len-i) (cap-i)) (n:=len-i) (us:=(vs.drop i).take (len-i)) (et:=e) hc.ht hi hs1
          (by simp[Builtin.lenOf]) (by
           rw[show Nat.min (len-i) (len-i)=len-i from Nat.min_self _]
           exact GJ _ hM1 (fun j u hj=>by
            show(CO (A5 w) (Bt (vs.take i++List.replicate (len+1-i) z++rest) i [yv]) e).cell? ⟨b,i+j,none⟩=_
            rw[Bn (w:=w) (Aw (w:=A5 w) hsz),Bd k2];rw[CT] at hj;split at hj
            ·rw[GM] at hj; exact hj
            ·simp at hj)) ABb hw2 (by rw[hM1,BJ,hAl]; omega)
         rw[show Nat.min (len-i) (len-i)=len-i from Nat.min_self _] at Qs
         have ZQ:A2 (CO (A5 w) (Bt (vs.take i++List.replicate (len+1-i) z++rest) i [yv]) e).drew w.heap.size (Bt (Bt (vs.take i++List.replicate (len+1-i) z++rest) i [yv]) (i+1) ((vs.drop i).take (len-i))) e
           = CO (A5 (A5 w)) (Bt (Bt (vs.take i++List.replicate (len+1-i) z++rest) i [yv]) (i+1) ((vs.drop i).take (len-i))) e:=
          Gm (w:=A5 (A5 w)) (us:=Bt (Bt (vs.take i++List.replicate (len+1-i) z++rest) i [yv]) (i+1) ((vs.drop i).take (len-i))) (vs:=Bt (vs.take i++List.replicate (len+1-i) z++rest) i [yv])
         rw[ZQ] at Qs;refine(hc.AAl w b len cap yb yo 1 i w.heap.size KR (by omega) hcap (by omega) hlt NT _ _ _ hrun LU Qs).mono ?_;rintro ex w' ⟨rfl,rfl⟩;obtain⟨x1,y1⟩:=hI.drew (L:=L);obtain⟨x2,y2⟩:=y1.drew (L:=L);obtain⟨x3,y3⟩:=y2.kill (L:=L) F2 b6;have RL:=mW (vs.take i++List.replicate (len+1-i) z++rest) vs yv i len b4 (by omega) (by rw[hAl]; omega) hAt
         obtain⟨x4,y4⟩:=y3.Qi (L:=L) (cs:=cs.take i++AV.pv c::cs.drop i) (vs:=Bt (Bt (vs.take i++List.replicate (len+1-i) z++rest) i [yv]) (i+1) ((vs.drop i).take (len-i))) e
          (by rw[Bu,BJ,BJ,hAl]; omega) (by rw[Bu,RL]; exact(ALY _ (x1.trans x2)).mono x3)
         refine⟨_,_,rfl,?_,((x1.trans x2).trans x3).trans x4,y4⟩;refine V.ref (n:=KR) (e:=e) (by simp[AH.F1,A5]) NT ?_ (by simp)
         have ZG:(CO (A5 (A5 w)) (Bt (Bt (vs.take i++List.replicate (len+1-i) z++rest) i [yv]) (i+1) ((vs.drop i).take (len-i))) e).heap[w.heap.size]?=some (.cells ⟨Bt (Bt (vs.take i++List.replicate (len+1-i) z++rest) i [yv]) (i+1) ((vs.drop i).take (len-i))⟩ e (0,0)):=by
          rw[Bm,if_pos (show w.heap.size=(A5 (A5 w)).heap.size from rfl)]
         have:=Be ZG;rw[BJ,BJ,hAl] at this;exact this
    ·simp at h
   ·cases MC:(Nat.beq i 0&&Ar (.pv c)) with
    | false=>rw[MC] at h; simp at h
    | true=>
     rw[MC] at h;simp only[AE,AY,Af] at h;obtain⟨rfl,rfl⟩:=h;simp only[AG] at MC;obtain⟨b1,b2⟩:=MC;have:=BM b1;subst this;have hu':=hu;cases hu with
     | @AA _ base b o sz f2 Qs=>
      refine zi _ _ _ _ base 0 0 hu' rfl (AL _) ?_;unfold I5;simp[hc.ht,hi,hzz,hs1,C8,rowsOf,b2];omega
   ·simp at h
 ·simp at h
end Go.Tel
