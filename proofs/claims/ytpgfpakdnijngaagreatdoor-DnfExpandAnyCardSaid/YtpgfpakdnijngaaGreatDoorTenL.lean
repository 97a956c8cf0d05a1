/-
  A told call: slices.Insert of one element of one cell.
-/
import Derived.Test.YtpgfpakdnijngaaGreatDoorTenJ
import Derived.Laws.Externs
import GoSem.Extern.SlicesOverlaps
set_option linter.all false
namespace Go.Tel
def Z1 (L:A3) (args:List AV) (s:AL):Option (AV×AL):=match args with
 | [x,.pv (.sc (.int .i64 (.ofNat i))),.AA [[c]]]=>match x with
  | .ref id 0 len 1=>match s.bs[id]? with
   | some cs=>
    bif BE (.pv c)&&(Nat.beq len cs.length&&(Nat.ble 1 len&&(Nat.ble i len&&(Nat.ble len 1000000000&&(Nat.ble L.ro id&&cs.all BE))))) then
     some (.ref s.bs.length 0 (len+1) 1,{ s with bs:=s.bs.set id []++[cs.take i++.pv c::cs.drop i] })
    else none
   | none=>none
  | .AA []=>bif Nat.beq i 0&&BE (.pv c) then some (.ref s.bs.length 0 1 1,{ s with bs:=s.bs++[[.pv c]] }) else none
  | _=>none
 | _=>none
theorem YC {P:Program} {w:World} {params results:Array TypeId} {t e:TypeId} {i:TypeInfo} {yb yo b o n m c1 c2:Nat} {y:Value} {vs:List Value} {et:TypeId} (hp:params[0]?=some t) (ht:P.underlying t=some (.slice e)) (hi:P.info? e=some i) (h1:i.size=1)
  (hy:w.cell? ⟨yb,yo,none⟩=some y) (hb:w.heap[b]?=some (.cells ⟨vs⟩ et (0,0))) (hv:vs≠[]) (hne:yb≠b) :
  (Extern.SlicesOverlaps.overlaps params results #[.slice (some ⟨yb,yo,none⟩) n c1,.slice (some ⟨b,o,none⟩) m c2]).run P w=.ok (.bool false) w:=by
 have hys:∃ey ny,w.shape? yb=some (ey,ny+1):=by
  unfold World.cell? at hy;unfold World.shape?;split at hy
  .rename_i cs ey fz h
   rw[h];simp only at hy;have:yo<cs.size:=by grind
   exact⟨ey,cs.size-1,by grind⟩
  grind
 obtain⟨ey,ny,hys⟩:=hys;have YA:w.shape? b=some (et,vs.length):=Bh hb;have hfz:∀o,w.frozen? ⟨b,o,none⟩=false:=λo=>by grind[World.frozen?]
 have hvl:vs.length≠0:=by grind
 have hd:Extern.SlicesOverlaps.overlaps params results #[.slice (some ⟨yb,yo,none⟩) n c1,.slice (some ⟨b,o,none⟩) m c2]=(do
   let some t:=params[0]? | stuck _
   let .slice elem <-underlying t|stuck _
   let size <-sizeOf elem
   if n=0\/m=0\/size=0 then pure (.bool false)
   else if yb != b&&(<-frozen ⟨yb,yo,none⟩)&&(<-frozen ⟨b,o,none⟩) then unsupported .addressObserved
   else do
    if yb != b then do
     noView ⟨yb,yo,none⟩; noView ⟨b,o,none⟩
     if <-mayBeOne ⟨yb,yo,none⟩ ⟨b,o,none⟩ then return .bool ((<-choose _)==1)
    pure (.bool (yb==b&&yo<o+m*size&&o<yo+n*size))):=rfl
 simp[*,run_underlying,run_sizeOf,noView,viewAt,mayBeOne,stringish]
structure AOZ (P:Program) (f fo:FuncId) (t e ti:TypeId):Prop where
 body:LJ P f
 ht:P.underlying t=some (.slice e)
 eB:P.underlying ti=some (.int .i64)
 info:∃i z,P.info? e=some i/\i.size=1/\i.bytes<=16/\i.zero=some z/\z.cells=#[z]/\z.oneCell'=true
 zero:∃z,zeroOf P e=some [z]
 AOa:∀(w w1:World) (s:Option Addr) (len cap yb yo Gg:Nat) (v1:Value),len<=cap ->
  (Builtin.append_ #[t,t] t #[.slice s len cap,.slice (some ⟨yb,yo,none⟩) 1 Gg]).run P w=.ok v1 w1 ->
  Calls P f #[.slice s len cap,.int .i64 len,.slice (some ⟨yb,yo,none⟩) 1 Gg] w λe' w'=>e'=.returned v1/\w'=w1
 ov:∀(w:World) (yb yo Gg b o m c2:Nat) (y:Value) (vs:List Value) (et:TypeId),w.cell? ⟨yb,yo,none⟩=some y->w.heap[b]?=some (.cells ⟨vs⟩ et (0,0))->vs≠[]->yb≠b ->
  (callFunc fo #[.slice (some ⟨yb,yo,none⟩) 1 Gg,.slice (some ⟨b,o,none⟩) m c2]).run P w=.ok (.value (.bool false)) w
 AEp:∀(w:World) (b len cap yb yo Gg i:Nat),len<=1000000000000000000->len+1<=cap->i<len->∀(w1 w2:World),
  (callFunc fo #[.slice (some ⟨yb,yo,none⟩) 1 Gg,.slice (some ⟨b,i+1,none⟩) (len-i) (cap-(i+1))]).run P w=.ok (.value (.bool false)) w ->
  (Builtin.copy_ #[t,t] ti #[.slice (some ⟨b,i+1,none⟩) (len-i) (cap-(i+1)),.slice (some ⟨b,i,none⟩) (len+1-i) (cap-i)]).run P w.drew=.ok (goInt (len-i:Nat)) w1 ->
  (Builtin.copy_ #[t,t] ti #[.slice (some ⟨b,i,none⟩) (len+1-i) (cap-i),.slice (some ⟨yb,yo,none⟩) 1 Gg]).run P w1=.ok (goInt (1:Nat)) w2 ->
  Calls P f #[.slice (some ⟨b,0,none⟩) len cap,.int .i64 i,.slice (some ⟨yb,yo,none⟩) 1 Gg] w λe' w'=>e'=.returned (.slice (some ⟨b,0,none⟩) (len+1) cap)/\w'=w2
 AEq:∀(w:World) (b len cap yb yo Gg i sz KC:Nat),len<=1000000000000000000->len<=cap->cap<len+1->i<len->len+1<=KC->∀(w1 w2 w3:World),
  (Builtin.append_ #[t,ti] t #[.slice (some ⟨b,0,none⟩) i cap,.int .i64 ((len:Int)+1-(i:Int))]).run P w=.ok (.slice (some ⟨sz,0,none⟩) (len+1) KC) w1 ->
  (Builtin.copy_ #[t,t] ti #[.slice (some ⟨sz,i,none⟩) (len+1-i) (KC-i),.slice (some ⟨yb,yo,none⟩) 1 Gg]).run P w1=.ok (goInt (1:Nat)) w2 ->
  (Builtin.copy_ #[t,t] ti #[.slice (some ⟨sz,i+1,none⟩) (len-i) (KC-(i+1)),.slice (some ⟨b,i,none⟩) (len-i) (cap-i)]).run P w2.drew=.ok (goInt (len-i:Nat)) w3 ->
  Calls P f #[.slice (some ⟨b,0,none⟩) len cap,.int .i64 i,.slice (some ⟨yb,yo,none⟩) 1 Gg] w λe' w'=>e'=.returned (.slice (some ⟨sz,0,none⟩) (len+1) KC)/\w'=w3
theorem Fx {P:Program} {w:World} {b o n m cap:Nat} (us:List Value) (hl:us.length=n) (h:∀(j:Nat) u,us[j]?=some u->w.cell? ⟨b,o+j,none⟩=some u) :
  (Builtin.firstCells 1 n (.slice (some ⟨b,o,none⟩) m cap)).run P w=.ok us.toArray w:=by grind[EW,Builtin.firstCells]
theorem yg (vs:List Value) (c:Value) (i len:Nat) (hi:i<=len) (hl:len+1<=vs.length) :
  (CA (CA vs (i+1) ((vs.drop i).take (len-i))) i [c]).take (len+1)=(vs.take len).take i++c::(vs.take len).drop i:=by
 have h1:((vs.drop i).take (len-i)).length=len-i:=by grind
 have hA:((vs.take len).take i).length=i:=by grind
 have hM:(CA vs (i+1) ((vs.drop i).take (len-i))).length=vs.length:=Be _ _ _;apply G9;intro q;rw[Rf]
 by_cases hq:q<len+1
 .rw[if_pos hq]
  rcases Nat.lt_trichotomy q i with h|h|h
  .grind[FH]
  .grind[CA]
  .obtain⟨r,rfl⟩:∃r,q=i+1+r:=⟨q-i-1,by omega⟩
   have hr:r<((vs.drop i).take (len-i)).length:=by omega
   rw[FH _ _ _ _ (.inr (by simp)),Gp _ vs (i+1) r _ (Ak hr) (by omega),E3 (by omega),hA]
   grind
 grind
theorem pg (A vs:List Value) (c:Value) (i len:Nat) (hi:i<=len) (hl:len<=vs.length) (hA:len+1<=A.length) (hp:A.take i=vs.take i) :
  (CA (CA A i [c]) (i+1) ((vs.drop i).take (len-i))).take (len+1)=(vs.take len).take i++c::(vs.take len).drop i:=by
 have h1:((vs.drop i).take (len-i)).length=len-i:=by grind
 have hB:((vs.take len).take i).length=i:=by grind
 have hM:(CA A i [c]).length=A.length:=Be _ _ _;apply G9;intro q;rw[Rf]
 by_cases hq:q<len+1
 .rw[if_pos hq]
  rcases Nat.lt_trichotomy q i with h|h|h
  .grind[FH]
  .grind[CA,FH]
  .obtain⟨r,rfl⟩:∃r,q=i+1+r:=⟨q-i-1,by omega⟩
   have hr:r<((vs.drop i).take (len-i)).length:=by omega
   rw[Gp _ _ (i+1) r _ (Ak hr) (by omega),E3 (by omega),hB]
   grind
 grind
theorem ACr {E:Env} {f fo:FuncId} {t e ti:TypeId} (hc:AOZ E.P f fo t e ti):Pu E f Z1:=by
 intro L args s s' v g w vs h hI hargs;refine⟨hc.body,?_⟩;obtain⟨i0,z,hi,hs1,hby,hz,hzc,hzo⟩:=hc.info;obtain⟨zz,hzz⟩:=hc.zero;unfold Z1 at h;split at h
 .rename_i x i c
  obtain⟨u,us,rfl,hu,hn⟩:=hargs.cases;obtain⟨u1,us1,rfl,hu1,hn1⟩:=hn.cases;obtain⟨u2,us2,rfl,hu2,hn2⟩:=hn1.cases;have:=hn2.EL; subst this;have:=hu1.CQ; subst this;have hyV:=hu2;cases hu2 with
  | @AA _ base yb yo ysz ff hr=>
   have AYN:ysz=1:=by simpa using(hr.hsz [c] (by simp)).symm
   subst AYN;have:=hr.hbase (by simp) (by omega);subst this;obtain⟨hyI,hyc⟩:=hr.hc 0 [c] 0 c rfl rfl;have hyv:=hr.hv 0 [c] 0 c rfl rfl;simp only[XU,Gc] at hyI hyc;simp only[CT,CJ,CP] at hyV hargs ⊢;generalize hy0:ff 0 0=yv at hyc hyv
   have pN:∀(x u:_) (r:AV) (s1:AL) (sb:Option Addr) (len cap:Nat),V g w x u->u=.slice sb len cap->len<=cap->Ii E.P ⟨L.n0,L.ro,L.rt,λ_=>true,L.rr,L.pl⟩ s t x (.AA [[c]])=some (r,s1) ->
     Calls E.P f #[u,.int .i64 len,.slice (some ⟨yb,yo,none⟩) 1 1] w λe w'=>∃v' g',e=.returned v'/\V g' w' r v'/\Ext L g w g' w'/\Inv E g' w' s1:=by
    intro x u r s1 sb len cap hx he hlc ha;obtain⟨v',w',g',k1,k2,k3,k4⟩:=NB (T:=t) (u:=t) (ts:=[]) hI hx hyV hc.ht (by simp) ha;subst he;refine(hc.AOa w w' sb len cap yb yo 1 v' hlc k1).mono ?_;rintro e w'' ⟨rfl,rfl⟩;exact⟨v',g',rfl,k2,k3.A4 rfl rfl,k4⟩
   split at h
   .rename_i id len
    split at h
    .rename_i cs hcs
     cases OY:(BE (.pv c)&&(Nat.beq len cs.length&&(Nat.ble 1 len&&(Nat.ble i len&&(Nat.ble len 1000000000&&(Nat.ble L.ro id&&cs.all BE)))))) with
     | false=>grind
     | true=>
      rw[OY] at h;simp only[AN,Au,A0] at h;obtain⟨rfl,rfl⟩:=h;simp only[AG] at OY;obtain⟨b1,b2,b3,b4,b5,b6,b7⟩:=OY;have b2:=Bx b2;have b3:=Cm b3;have b4:=Cm b4;have b5:=Cm b5;have b6:=Cm b6;have Aaq:yv.oneCell'=true:=JH (.pv hyv) b1;cases hu with
      | Ik hd=>
       have:=hI.DI id hd
       grind
      | @ref _ _ _ _ b cap n te H8 hcap hsh qy=>
       obtain⟨cs',vs,e',k1,k2,kle,k3⟩:=hI.blk id b H8;rw[hcs] at k1; simp only[Au] at k1; subst k1;rw[Bh k2] at hsh;simp only[Au,A0] at hsh;obtain⟨he,hnv⟩:=hsh;subst he hnv;have hcv:cap<=vs.length:=by omega
       have hne:yb≠b:=λq=>hI.FA id b yo H8 (q ▸ hyI)
       have hvs:vs≠[]:=λq=>by grind
       have hone:∀u∈vs.take len,u.oneCell'=true:=by rw[b2]; exact k3.one b7
       have hM1:((vs.drop i).take (len-i)).length=len-i:=by grind
       have AFz:∀u∈(vs.drop i).take (len-i),u.oneCell'=true:=λu hu=>hone u (by
        have:(vs.drop i).take (len-i)=(vs.take len).drop i:=by rw[List.drop_take]
        grind)
       have Bi:(cs.take i++AV.pv c::cs.drop i).length=len+1:=by grind
       have k3':VL g w cs (vs.take len):=by grind
       have AYR:∀(w2:World) (e2:Ext L g w g w2),VL g w2 (cs.take i++AV.pv c::cs.drop i) ((vs.take len).take i++yv::(vs.take len).drop i):=λw2 e2=>
        ((k3'.mono e2).take i).append (.cons ((V.pv hyv).mono e2) ((k3'.mono e2).drop i))
       by_cases hil:i=len
       .subst hil
        have ha:Ii E.P ⟨L.n0,L.ro,L.rt,λ_=>true,L.rr,L.pl⟩ s t (.ref id 0 i 1) (.AA [[c]])=some (.ref s.bs.length 0 (i+1) 1,{ s with bs:=s.bs.set id []++[cs.take i++AV.pv c::cs.drop i] }):=by
         have hal:alive s id=true:=by
          unfold alive;rw[hcs];cases cs with
          | nil=>grind
          | cons a l=>rfl
         unfold Ii;have hby2:(i+1)*i0.bytes<=2 ^ 45:=CN (Ei _ hby) (by omega);simp[hc.ht,hi,hzz,hs1,C0,rowsOf,b1,hcs,hal,b2,b6]
         grind
        exact pN _ _ _ _ _ i cap (.ref H8 hcap (Bh k2) (by omega)) rfl hcap ha
       .have hlt:i<len:=by omega
        by_cases hroom:len+1<=cap
        .have k2d:w.drew.heap[b]?=some (.cells ⟨vs⟩ e' (0,0)):=k2
         have R3:=PT (P:=E.P) (w:=w.drew) (t:=t) (u:=t) (elem:=e) (T:=ti) (i:=i0) (b:=b) (o:=i+1) (dl:=len-i) (dc:=cap-(i+1)) (x:=.slice (some ⟨b,i,none⟩) (len+1-i) (cap-i)) (n:=len+1-i) (us:=(vs.drop i).take (len-i)) (vs:=vs) (et:=e') hc.ht hi hs1
          (by rfl) (by grind[Fx,Bg]) AFz k2d (by omega)
         rw[show Nat.min (len+1-i) (len-i)=len-i from Nat.min_eq_right (by omega)] at R3;have k2e:(BI w.drew b (CA vs (i+1) ((vs.drop i).take (len-i))) e').heap[b]?=some (.cells ⟨CA vs (i+1) ((vs.drop i).take (len-i))⟩ e' (0,0)):=by grind[BX]
         have P0:=PT (P:=E.P) (w:=BI w.drew b (CA vs (i+1) ((vs.drop i).take (len-i))) e') (t:=t) (u:=t) (elem:=e) (T:=ti) (i:=i0) (b:=b) (o:=i) (dl:=len+1-i) (dc:=cap-i) (x:=.slice (some ⟨yb,yo,none⟩) 1 1) (n:=1) (us:=[yv]) (vs:=CA vs (i+1) ((vs.drop i).take (len-i))) (et:=e') hc.ht hi hs1
          (by rfl) (by
           rw[show Nat.min 1 (len+1-i)=1 from Rt (by omega)]
           exact Fx [yv] rfl (λj u hj=>by
            cases j with
            | zero=>
             simp at hj; subst hj;rw[Gc,B4 (w:=w) (by rw[BX,if_neg (E4 hne)]; rfl)];omega
            | succ j=>grind)) (by grind) k2e (by grind[Be])
         rw[show Nat.min 1 (len+1-i)=1 from Rt (by omega),EI] at P0;refine(hc.AEp w b len cap yb yo 1 i (by omega) hroom hlt _ _ (hc.ov w yb yo 1 b (i+1) (len-i) (cap-(i+1)) yv vs e' hyc k2 hvs hne) R3 P0).mono ?_;rintro ex w' ⟨rfl,rfl⟩;obtain⟨e1,i1⟩:=hI.drew (L:=L);have Vh:=yg vs yv i len b4 (by omega)
         obtain⟨r1,r2⟩:=i1.sA (L:=L) (cs':=cs.take i++AV.pv c::cs.drop i) (vs':=CA (CA vs (i+1) ((vs.drop i).take (len-i))) i [yv]) H8 k2d (by grind[Be]) b6
          (by grind[Be]) (by grind)
         refine⟨_,_,rfl,?_,e1.trans r1,r2⟩;refine V.ref (n:=vs.length) (e:=e') (by simp[AE.Fi]) hroom ?_ (by omega);have nw:(BI (BN w) b (CA (CA vs (i+1) ((vs.drop i).take (len-i))) i [yv]) e').heap[b]?=some (.cells ⟨CA (CA vs (i+1) ((vs.drop i).take (len-i))) i [yv]⟩ e' (0,0)):=by grind[BX,BN]
         have:=Bh nw;rw[Be,Be] at this;exact this
        .have AS2:(vs.take i).length=i:=by grind
         obtain⟨KC,rest,NW,RL,hrun⟩:=RY (P:=E.P) (w:=w) (T:=t) (base:=some ⟨b,0,none⟩) (sLen:=i) (sCap:=cap) (n:=len+1-i) (os:=vs.take i) hc.ht hi hc.eB hs1 hz hzc
          (Fx _ AS2 (λj u hj=>by grind[Bg,BN])) (by omega) (by omega) (by omega) (CN (Ei _ hby) (by omega)) (by omega)
         have e1:i+(len+1-i)=len+1:=by omega
         have e2:((len+1-i:Nat):Int)=(len:Int)+1-(i:Int):=by omega
         rw[e1] at NW RL hrun;rw[e2] at hrun;have hsz:b<w.heap.size:=HY k2;have hAl:(vs.take i++List.replicate (len+1-i) z++rest).length=KC:=by grind
         have hAt:(vs.take i++List.replicate (len+1-i) z++rest).take i=vs.take i:=by
          rw[FY,Ri AS2]
         have hw1:(CW (BN w) (vs.take i++List.replicate (len+1-i) z++rest) e).heap[w.heap.size]?=some (.cells ⟨vs.take i++List.replicate (len+1-i) z++rest⟩ e (0,0)):=by grind[Bv,BN]
         have hyb:yb<w.heap.size:=hI.IG _ _ hyI
         have R3:=PT (P:=E.P) (w:=CW (BN w) (vs.take i++List.replicate (len+1-i) z++rest) e) (t:=t) (u:=t) (elem:=e) (T:=ti) (i:=i0) (b:=w.heap.size) (o:=i) (dl:=len+1-i) (dc:=KC-i) (x:=.slice (some ⟨yb,yo,none⟩) 1 1) (n:=1) (us:=[yv]) (et:=e) hc.ht hi hs1
          (by rfl) (by
           rw[show Nat.min 1 (len+1-i)=1 from Rt (by omega)];exact Fx [yv] rfl (λj u hj=>by grind[B4,BC,BN])) (by grind) hw1 (by grind)
         have hpp:BI (CW (BN w) (vs.take i++List.replicate (len+1-i) z++rest) e) w.heap.size (CA (vs.take i++List.replicate (len+1-i) z++rest) i [yv]) e=CW (BN w) (CA (vs.take i++List.replicate (len+1-i) z++rest) i [yv]) e:=
          GX (w:=BN w)
         rw[show Nat.min 1 (len+1-i)=1 from Rt (by omega),hpp] at R3
         have hw2:(CW (BN w) (CA (vs.take i++List.replicate (len+1-i) z++rest) i [yv]) e).drew.heap[w.heap.size]?=some (.cells ⟨CA (vs.take i++List.replicate (len+1-i) z++rest) i [yv]⟩ e (0,0)):=by
          show(CW (BN w) (CA (vs.take i++List.replicate (len+1-i) z++rest) i [yv]) e).heap[w.heap.size]?=_
          grind[Bv,BN]
         have P0:=PT (P:=E.P) (w:=(CW (BN w) (CA (vs.take i++List.replicate (len+1-i) z++rest) i [yv]) e).drew) (t:=t) (u:=t) (elem:=e) (T:=ti) (i:=i0) (b:=w.heap.size) (o:=i+1) (dl:=len-i) (dc:=KC-(i+1)) (x:=.slice (some ⟨b,i,none⟩) (len-i) (cap-i)) (n:=len-i) (us:=(vs.drop i).take (len-i)) (et:=e) hc.ht hi hs1
          (by rfl) (by
           rw[show Nat.min (len-i) (len-i)=len-i from Nat.min_self _]
           exact Fx _ hM1 (λj u hj=>by
            show(CW (BN w) (CA (vs.take i++List.replicate (len+1-i) z++rest) i [yv]) e).cell? ⟨b,i+j,none⟩=_
            grind[BC,BN,Bg])) AFz hw2 (by grind[Be])
         rw[show Nat.min (len-i) (len-i)=len-i from Nat.min_self _] at P0
         have oH:BI (CW (BN w) (CA (vs.take i++List.replicate (len+1-i) z++rest) i [yv]) e).drew w.heap.size (CA (CA (vs.take i++List.replicate (len+1-i) z++rest) i [yv]) (i+1) ((vs.drop i).take (len-i))) e
           = CW (BN (BN w)) (CA (CA (vs.take i++List.replicate (len+1-i) z++rest) i [yv]) (i+1) ((vs.drop i).take (len-i))) e:=
          GX (w:=BN (BN w)) (us:=CA (CA (vs.take i++List.replicate (len+1-i) z++rest) i [yv]) (i+1) ((vs.drop i).take (len-i))) (vs:=CA (vs.take i++List.replicate (len+1-i) z++rest) i [yv])
         rw[oH] at P0;refine(hc.AEq w b len cap yb yo 1 i w.heap.size KC (by omega) hcap (by omega) hlt NW _ _ _ hrun R3 P0).mono ?_;rintro ex w' ⟨rfl,rfl⟩;obtain⟨x1,y1⟩:=hI.drew (L:=L);obtain⟨x2,y2⟩:=y1.drew (L:=L);obtain⟨x3,y3⟩:=y2.kill (L:=L) H8 b6;have Vh:=pg (vs.take i++List.replicate (len+1-i) z++rest) vs yv i len b4 (by omega) (by omega) hAt
         obtain⟨x4,y4⟩:=y3.Qp (L:=L) (cs:=cs.take i++AV.pv c::cs.drop i) (vs:=CA (CA (vs.take i++List.replicate (len+1-i) z++rest) i [yv]) (i+1) ((vs.drop i).take (len-i))) e
          (by grind[Be]) (by rw[Bi,Vh]; exact(AYR _ (x1.trans x2)).mono x3)
         refine⟨_,_,rfl,?_,((x1.trans x2).trans x3).trans x4,y4⟩;refine V.ref (n:=KC) (e:=e) (by simp[AE.Fi,BN]) NW ?_ (by simp)
         grind[BN,Bv,Bh,Be]
    grind
   .cases OY:(Nat.beq i 0&&BE (.pv c)) with
    | false=>grind
    | true=>
     rw[OY] at h;simp only[AN,Au,A0] at h;obtain⟨rfl,rfl⟩:=h;simp only[AG] at OY;obtain⟨b1,b2⟩:=OY;have:=Bx b1;subst this;have hu':=hu;cases hu with
     | @AA _ base b o sz f2 P0=>
      refine pN _ _ _ _ base 0 0 hu' rfl (Ac _) ?_;unfold Ii;simp[hc.ht,hi,hzz,hs1,C0,rowsOf,b2];omega
   grind
 grind
end Go.Tel
