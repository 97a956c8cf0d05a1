/-
  A told call: slices.Insert of one element of one cell.
-/
import Derived.Test.YtpgfpakdnijngaaGreatDoorTenJ
import Derived.Laws.Externs
import GoSem.Extern.SlicesOverlaps
set_option linter.all false
namespace Go.Tel
def Zj (L:A8) (args:List AV) (s:AM):Option (AV×AM):=match args with
 | [x,.pv (.sc (.int .i64 (.ofNat i))),.AB [[c]]]=>match x with
  | .ref id 0 len 1=>match s.bs[id]? with
   | some cs=>
    bif A9 (.pv c)&&(Nat.beq len cs.length&&(Nat.ble 1 len&&(Nat.ble i len&&(Nat.ble len 1000000000&&(Nat.ble L.ro id&&cs.all A9))))) then
     some (.ref s.bs.length 0 (len+1) 1,{ s with bs:=s.bs.set id []++[cs.take i++.pv c::cs.drop i] })
    else none
   | none=>none
  | .AB []=>bif Nat.beq i 0&&A9 (.pv c) then some (.ref s.bs.length 0 1 1,{ s with bs:=s.bs++[[.pv c]] }) else none
  | _=>none
 | _=>none
theorem Xq {P:Program} {w:World} {params results:Array TypeId} {t e:TypeId} {i:TypeInfo} {yb yo b o n m c1 c2:Nat} {y:Value} {vs:List Value} {et:TypeId} (hp:params[0]?=some t) (ht:P.underlying t=some (.slice e)) (hi:P.info? e=some i) (h1:i.size=1)
  (hy:w.cell? ⟨yb,yo,none⟩=some y) (hb:w.heap[b]?=some (.cells ⟨vs⟩ et (0,0))) (hv:vs≠[]) (hne:yb≠b) :
  (Extern.SlicesOverlaps.overlaps params results #[.slice (some ⟨yb,yo,none⟩) n c1,.slice (some ⟨b,o,none⟩) m c2]).run P w=.ok (.bool false) w:=by
 have hys:∃ey ny,w.shape? yb=some (ey,ny+1):=by
  unfold World.cell? at hy;unfold World.shape?;split at hy
  .rename_i cs ey fz h
   rw[h];simp only at hy;have:yo<cs.size:=by grind
   exact⟨ey,cs.size-1,by grind⟩
  grind
 obtain⟨ey,ny,hys⟩:=hys;have aY:w.shape? b=some (et,vs.length):=Bl hb;have hfz:∀o,w.frozen? ⟨b,o,none⟩=false:=λo=>by grind[World.frozen?]
 have hvl:vs.length≠0:=by grind
 have hd:Extern.SlicesOverlaps.overlaps params results #[.slice (some ⟨yb,yo,none⟩) n c1,.slice (some ⟨b,o,none⟩) m c2]=(do
   let some t:=params[0]? | stuck _
   let .slice elem <-underlying t|stuck _
   let size <-sizeOf elem
   if n=0\/m=0\/size=0 then pure (.bool false)
   else if yb != b&&(<-frozen ⟨yb,yo,none⟩)&&(<-frozen ⟨b,o,none⟩) then unsupported .addressObserved
   else do
    if yb != b then do
     noView ⟨yb,yo,none⟩; noView ⟨b,o,none⟩
     if <-mayBeOne ⟨yb,yo,none⟩ ⟨b,o,none⟩ then return .bool ((<-choose _)==1)
    pure (.bool (yb==b&&yo<o+m*size&&o<yo+n*size))):=rfl
 simp[*,run_underlying,run_sizeOf,noView,viewAt,mayBeOne,stringish]
structure AOm (P:Program) (f fo:FuncId) (t e ti:TypeId):Prop where
 body:K4 P f
 ht:P.underlying t=some (.slice e)
 dS:P.underlying ti=some (.int .i64)
 info:∃i z,P.info? e=some i/\i.size=1/\i.bytes<=16/\i.zero=some z/\z.cells=#[z]/\z.oneCell'=true
 zero:∃z,zeroOf P e=some [z]
 AOn:∀(w w1:World) (s:Option Addr) (len cap yb yo Gg:Nat) (v1:Value),len<=cap ->
  (Builtin.append_ #[t,t] t #[.slice s len cap,.slice (some ⟨yb,yo,none⟩) 1 Gg]).run P w=.ok v1 w1 ->
  Calls P f #[.slice s len cap,.int .i64 len,.slice (some ⟨yb,yo,none⟩) 1 Gg] w λe' w'=>e'=.returned v1/\w'=w1
 ov:∀(w:World) (yb yo Gg b o m c2:Nat) (y:Value) (vs:List Value) (et:TypeId),w.cell? ⟨yb,yo,none⟩=some y->w.heap[b]?=some (.cells ⟨vs⟩ et (0,0))->vs≠[]->yb≠b ->
  (callFunc fo #[.slice (some ⟨yb,yo,none⟩) 1 Gg,.slice (some ⟨b,o,none⟩) m c2]).run P w=.ok (.value (.bool false)) w
 AEZ:∀(w:World) (b len cap yb yo Gg i:Nat),len<=1000000000000000000->len+1<=cap->i<len->∀(w1 w2:World),
  (callFunc fo #[.slice (some ⟨yb,yo,none⟩) 1 Gg,.slice (some ⟨b,i+1,none⟩) (len-i) (cap-(i+1))]).run P w=.ok (.value (.bool false)) w ->
  (Builtin.copy_ #[t,t] ti #[.slice (some ⟨b,i+1,none⟩) (len-i) (cap-(i+1)),.slice (some ⟨b,i,none⟩) (len+1-i) (cap-i)]).run P w.drew=.ok (goInt (len-i:Nat)) w1 ->
  (Builtin.copy_ #[t,t] ti #[.slice (some ⟨b,i,none⟩) (len+1-i) (cap-i),.slice (some ⟨yb,yo,none⟩) 1 Gg]).run P w1=.ok (goInt (1:Nat)) w2 ->
  Calls P f #[.slice (some ⟨b,0,none⟩) len cap,.int .i64 i,.slice (some ⟨yb,yo,none⟩) 1 Gg] w λe' w'=>e'=.returned (.slice (some ⟨b,0,none⟩) (len+1) cap)/\w'=w2
 AEa:∀(w:World) (b len cap yb yo Gg i sz J7:Nat),len<=1000000000000000000->len<=cap->cap<len+1->i<len->len+1<=J7->∀(w1 w2 w3:World),
  (Builtin.append_ #[t,ti] t #[.slice (some ⟨b,0,none⟩) i cap,.int .i64 ((len:Int)+1-(i:Int))]).run P w=.ok (.slice (some ⟨sz,0,none⟩) (len+1) J7) w1 ->
  (Builtin.copy_ #[t,t] ti #[.slice (some ⟨sz,i,none⟩) (len+1-i) (J7-i),.slice (some ⟨yb,yo,none⟩) 1 Gg]).run P w1=.ok (goInt (1:Nat)) w2 ->
  (Builtin.copy_ #[t,t] ti #[.slice (some ⟨sz,i+1,none⟩) (len-i) (J7-(i+1)),.slice (some ⟨b,i,none⟩) (len-i) (cap-i)]).run P w2.drew=.ok (goInt (len-i:Nat)) w3 ->
  Calls P f #[.slice (some ⟨b,0,none⟩) len cap,.int .i64 i,.slice (some ⟨yb,yo,none⟩) 1 Gg] w λe' w'=>e'=.returned (.slice (some ⟨sz,0,none⟩) (len+1) J7)/\w'=w3
theorem Fu {P:Program} {w:World} {b o n m cap:Nat} (us:List Value) (hl:us.length=n) (h:∀(j:Nat) u,us[j]?=some u->w.cell? ⟨b,o+j,none⟩=some u) :
  (Builtin.firstCells 1 n (.slice (some ⟨b,o,none⟩) m cap)).run P w=.ok us.toArray w:=by grind[ET,Builtin.firstCells]
theorem yE (vs:List Value) (c:Value) (i len:Nat) (hi:i<=len) (hl:len+1<=vs.length) :
  (CC (CC vs (i+1) ((vs.drop i).take (len-i))) i [c]).take (len+1)=(vs.take len).take i++c::(vs.take len).drop i:=by
 have h1:((vs.drop i).take (len-i)).length=len-i:=by grind
 have hA:((vs.take len).take i).length=i:=by grind
 have hM:(CC vs (i+1) ((vs.drop i).take (len-i))).length=vs.length:=Bd _ _ _;apply G3;intro q;rw[RG]
 by_cases hq:q<len+1
 .rw[if_pos hq]
  rcases Nat.lt_trichotomy q i with h|h|h
  .grind[FI]
  .grind[CC]
  .obtain⟨r,rfl⟩:∃r,q=i+1+r:=⟨q-i-1,by omega⟩
   have hr:r<((vs.drop i).take (len-i)).length:=by omega
   rw[FI _ _ _ _ (.inr (by simp)),Gl _ vs (i+1) r _ (Ak hr) (by omega),E4 (by omega),hA]
   grind
 grind
theorem pG (A vs:List Value) (c:Value) (i len:Nat) (hi:i<=len) (hl:len<=vs.length) (hA:len+1<=A.length) (hp:A.take i=vs.take i) :
  (CC (CC A i [c]) (i+1) ((vs.drop i).take (len-i))).take (len+1)=(vs.take len).take i++c::(vs.take len).drop i:=by
 have h1:((vs.drop i).take (len-i)).length=len-i:=by grind
 have hB:((vs.take len).take i).length=i:=by grind
 have hM:(CC A i [c]).length=A.length:=Bd _ _ _;apply G3;intro q;rw[RG]
 by_cases hq:q<len+1
 .rw[if_pos hq]
  rcases Nat.lt_trichotomy q i with h|h|h
  .grind[FI]
  .grind[CC,FI]
  .obtain⟨r,rfl⟩:∃r,q=i+1+r:=⟨q-i-1,by omega⟩
   have hr:r<((vs.drop i).take (len-i)).length:=by omega
   rw[Gl _ _ (i+1) r _ (Ak hr) (by omega),E4 (by omega),hB]
   grind
 grind
theorem ACX {E:Env} {f fo:FuncId} {t e ti:TypeId} (hc:AOm E.P f fo t e ti):PW E f Zj:=by
 intro L args s s' v g w vs h hI hargs;refine⟨hc.body,?_⟩;obtain⟨i0,z,hi,hs1,hby,hz,hzc,hzo⟩:=hc.info;obtain⟨zz,hzz⟩:=hc.zero;unfold Zj at h;split at h
 .rename_i x i c
  obtain⟨u,us,rfl,hu,hn⟩:=hargs.cases;obtain⟨u1,us1,rfl,hu1,hn1⟩:=hn.cases;obtain⟨u2,us2,rfl,hu2,hn2⟩:=hn1.cases;have:=hn2.F2; subst this;have:=hu1.C2; subst this;have hyV:=hu2;cases hu2 with
  | @AB _ base yb yo ysz ff hr=>
   have AYv:ysz=1:=by simpa using(hr.hsz [c] (by simp)).symm
   subst AYv;have:=hr.hbase (by simp) (by omega);subst this;obtain⟨hyI,hyc⟩:=hr.hc 0 [c] 0 c rfl rfl;have hyv:=hr.hv 0 [c] 0 c rfl rfl;simp only[W0,GY] at hyI hyc;simp only[CO,B8,CQ] at hyV hargs ⊢;generalize hy0:ff 0 0=yv at hyc hyv
   have ot:∀(x u:_) (r:AV) (s1:AM) (sb:Option Addr) (len cap:Nat),V g w x u->u=.slice sb len cap->len<=cap->Ij E.P ⟨L.n0,L.ro,L.rt,λ_=>true,L.rr,L.pl⟩ s t x (.AB [[c]])=some (r,s1) ->
     Calls E.P f #[u,.int .i64 len,.slice (some ⟨yb,yo,none⟩) 1 1] w λe w'=>∃v' g',e=.returned v'/\V g' w' r v'/\Ext L g w g' w'/\Inv E g' w' s1:=by
    intro x u r s1 sb len cap hx he hlc ha;obtain⟨v',w',g',k1,k2,k3,k4⟩:=Mv (T:=t) (u:=t) (ts:=[]) hI hx hyV hc.ht (by simp) ha;subst he;refine(hc.AOn w w' sb len cap yb yo 1 v' hlc k1).mono ?_;rintro e w'' ⟨rfl,rfl⟩;exact⟨v',g',rfl,k2,k3.Az rfl rfl,k4⟩
   split at h
   .rename_i id len
    split at h
    .rename_i cs hcs
     cases OI:(A9 (.pv c)&&(Nat.beq len cs.length&&(Nat.ble 1 len&&(Nat.ble i len&&(Nat.ble len 1000000000&&(Nat.ble L.ro id&&cs.all A9)))))) with
     | false=>grind
     | true=>
      rw[OI] at h;simp only[AN,BG,BK] at h;obtain⟨rfl,rfl⟩:=h;simp only[AE] at OI;obtain⟨b1,b2,b3,b4,b5,b6,b7⟩:=OI;have b2:=Bz b2;have b3:=C1 b3;have b4:=C1 b4;have b5:=C1 b5;have b6:=C1 b6;have AbS:yv.oneCell'=true:=JH (.pv hyv) b1;cases hu with
      | Im hd=>
       have:=hI.Dd id hd
       grind
      | @ref _ _ _ _ b cap n te Hz hcap hsh qb=>
       obtain⟨cs',vs,e',k1,k2,kle,k3⟩:=hI.blk id b Hz;rw[hcs] at k1; simp only[BG] at k1; subst k1;rw[Bl k2] at hsh;simp only[BG,BK] at hsh;obtain⟨he,hnv⟩:=hsh;subst he hnv;have hcv:cap<=vs.length:=by omega
       have hne:yb≠b:=λq=>hI.F3 id b yo Hz (q ▸ hyI)
       have hvs:vs≠[]:=λq=>by grind
       have hone:∀u∈vs.take len,u.oneCell'=true:=by rw[b2]; exact k3.one b7
       have hM1:((vs.drop i).take (len-i)).length=len-i:=by grind
       have AFu:∀u∈(vs.drop i).take (len-i),u.oneCell'=true:=λu hu=>hone u (by
        have:(vs.drop i).take (len-i)=(vs.take len).drop i:=by rw[List.drop_take]
        grind)
       have Be:(cs.take i++AV.pv c::cs.drop i).length=len+1:=by grind
       have k3':VL g w cs (vs.take len):=by grind
       have AYz:∀(w2:World) (e2:Ext L g w g w2),VL g w2 (cs.take i++AV.pv c::cs.drop i) ((vs.take len).take i++yv::(vs.take len).drop i):=λw2 e2=>
        ((k3'.mono e2).take i).append (.cons ((V.pv hyv).mono e2) ((k3'.mono e2).drop i))
       by_cases hil:i=len
       .subst hil
        have ha:Ij E.P ⟨L.n0,L.ro,L.rt,λ_=>true,L.rr,L.pl⟩ s t (.ref id 0 i 1) (.AB [[c]])=some (.ref s.bs.length 0 (i+1) 1,{ s with bs:=s.bs.set id []++[cs.take i++AV.pv c::cs.drop i] }):=by
         have hal:alive s id=true:=by
          unfold alive;rw[hcs];cases cs with
          | nil=>grind
          | cons a l=>rfl
         unfold Ij;have hby2:(i+1)*i0.bytes<=2 ^ 45:=Bq (Eg _ hby) (by omega);simp[hc.ht,hi,hzz,hs1,Cx,rowsOf,b1,hcs,hal,b2,b6]
         grind
        exact ot _ _ _ _ _ i cap (.ref Hz hcap (Bl k2) (by omega)) rfl hcap ha
       .have hlt:i<len:=by omega
        by_cases hroom:len+1<=cap
        .have k2d:w.drew.heap[b]?=some (.cells ⟨vs⟩ e' (0,0)):=k2
         have Xo:=O8 (P:=E.P) (w:=w.drew) (t:=t) (u:=t) (elem:=e) (T:=ti) (i:=i0) (b:=b) (o:=i+1) (dl:=len-i) (dc:=cap-(i+1)) (x:=.slice (some ⟨b,i,none⟩) (len+1-i) (cap-i)) (n:=len+1-i) (us:=(vs.drop i).take (len-i)) (vs:=vs) (et:=e') hc.ht hi hs1
          (by rfl) (by grind[Fu,Bj]) AFu k2d (by omega)
         rw[show Nat.min (len+1-i) (len-i)=len-i from Nat.min_eq_right (by omega)] at Xo;have k2e:(BH w.drew b (CC vs (i+1) ((vs.drop i).take (len-i))) e').heap[b]?=some (.cells ⟨CC vs (i+1) ((vs.drop i).take (len-i))⟩ e' (0,0)):=by grind[BX]
         have Ns:=O8 (P:=E.P) (w:=BH w.drew b (CC vs (i+1) ((vs.drop i).take (len-i))) e') (t:=t) (u:=t) (elem:=e) (T:=ti) (i:=i0) (b:=b) (o:=i) (dl:=len+1-i) (dc:=cap-i) (x:=.slice (some ⟨yb,yo,none⟩) 1 1) (n:=1) (us:=[yv]) (vs:=CC vs (i+1) ((vs.drop i).take (len-i))) (et:=e') hc.ht hi hs1
          (by rfl) (by
           rw[show Nat.min 1 (len+1-i)=1 from RU (by omega)]
           exact Fu [yv] rfl (λj u hj=>by
            cases j with
            | zero=>
             simp at hj; subst hj;rw[GY,Cd (w:=w) (by rw[BX,if_neg (F0 hne)]; rfl)];omega
            | succ j=>grind)) (by grind) k2e (by grind[Bd])
         rw[show Nat.min 1 (len+1-i)=1 from RU (by omega),EG] at Ns;refine(hc.AEZ w b len cap yb yo 1 i (by omega) hroom hlt _ _ (hc.ov w yb yo 1 b (i+1) (len-i) (cap-(i+1)) yv vs e' hyc k2 hvs hne) Xo Ns).mono ?_;rintro ex w' ⟨rfl,rfl⟩;obtain⟨e1,i1⟩:=hI.drew (L:=L);have VG:=yE vs yv i len b4 (by omega)
         obtain⟨r1,r2⟩:=i1.rL (L:=L) (cs':=cs.take i++AV.pv c::cs.drop i) (vs':=CC (CC vs (i+1) ((vs.drop i).take (len-i))) i [yv]) Hz k2d (by grind[Bd]) b6
          (by grind[Bd]) (by grind)
         refine⟨_,_,rfl,?_,e1.trans r1,r2⟩;refine V.ref (n:=vs.length) (e:=e') (by simp[AH.Fg]) hroom ?_ (by omega);have qX:(BH (BU w) b (CC (CC vs (i+1) ((vs.drop i).take (len-i))) i [yv]) e').heap[b]?=some (.cells ⟨CC (CC vs (i+1) ((vs.drop i).take (len-i))) i [yv]⟩ e' (0,0)):=by grind[BX,BU]
         have:=Bl qX;rw[Bd,Bd] at this;exact this
        .have ATT:(vs.take i).length=i:=by grind
         obtain⟨J7,rest,NC,Qy,hrun⟩:=RB (P:=E.P) (w:=w) (T:=t) (base:=some ⟨b,0,none⟩) (sLen:=i) (sCap:=cap) (n:=len+1-i) (os:=vs.take i) hc.ht hi hc.dS hs1 hz hzc
          (Fu _ ATT (λj u hj=>by grind[Bj,BU])) (by omega) (by omega) (by omega) (Bq (Eg _ hby) (by omega)) (by omega)
         have e1:i+(len+1-i)=len+1:=by omega
         have e2:((len+1-i:Nat):Int)=(len:Int)+1-(i:Int):=by omega
         rw[e1] at NC Qy hrun;rw[e2] at hrun;have hsz:b<w.heap.size:=Ry k2;have hAl:(vs.take i++List.replicate (len+1-i) z++rest).length=J7:=by grind
         have hAt:(vs.take i++List.replicate (len+1-i) z++rest).take i=vs.take i:=by
          rw[Di,RK ATT]
         have hw1:(CW (BU w) (vs.take i++List.replicate (len+1-i) z++rest) e).heap[w.heap.size]?=some (.cells ⟨vs.take i++List.replicate (len+1-i) z++rest⟩ e (0,0)):=by grind[CD,BU]
         have hyb:yb<w.heap.size:=hI.J3 _ _ hyI
         have Xo:=O8 (P:=E.P) (w:=CW (BU w) (vs.take i++List.replicate (len+1-i) z++rest) e) (t:=t) (u:=t) (elem:=e) (T:=ti) (i:=i0) (b:=w.heap.size) (o:=i) (dl:=len+1-i) (dc:=J7-i) (x:=.slice (some ⟨yb,yo,none⟩) 1 1) (n:=1) (us:=[yv]) (et:=e) hc.ht hi hs1
          (by rfl) (by
           rw[show Nat.min 1 (len+1-i)=1 from RU (by omega)];exact Fu [yv] rfl (λj u hj=>by grind[Cd,BC,BU])) (by grind) hw1 (by grind)
         have hpp:BH (CW (BU w) (vs.take i++List.replicate (len+1-i) z++rest) e) w.heap.size (CC (vs.take i++List.replicate (len+1-i) z++rest) i [yv]) e=CW (BU w) (CC (vs.take i++List.replicate (len+1-i) z++rest) i [yv]) e:=
          GR (w:=BU w)
         rw[show Nat.min 1 (len+1-i)=1 from RU (by omega),hpp] at Xo
         have hw2:(CW (BU w) (CC (vs.take i++List.replicate (len+1-i) z++rest) i [yv]) e).drew.heap[w.heap.size]?=some (.cells ⟨CC (vs.take i++List.replicate (len+1-i) z++rest) i [yv]⟩ e (0,0)):=by
          show(CW (BU w) (CC (vs.take i++List.replicate (len+1-i) z++rest) i [yv]) e).heap[w.heap.size]?=_
          grind[CD,BU]
         have Ns:=O8 (P:=E.P) (w:=(CW (BU w) (CC (vs.take i++List.replicate (len+1-i) z++rest) i [yv]) e).drew) (t:=t) (u:=t) (elem:=e) (T:=ti) (i:=i0) (b:=w.heap.size) (o:=i+1) (dl:=len-i) (dc:=J7-(i+1)) (x:=.slice (some ⟨b,i,none⟩) (len-i) (cap-i)) (n:=len-i) (us:=(vs.drop i).take (len-i)) (et:=e) hc.ht hi hs1
          (by rfl) (by
           rw[show Nat.min (len-i) (len-i)=len-i from Nat.min_self _]
           exact Fu _ hM1 (λj u hj=>by
            show(CW (BU w) (CC (vs.take i++List.replicate (len+1-i) z++rest) i [yv]) e).cell? ⟨b,i+j,none⟩=_
            grind[BC,BU,Bj])) AFu hw2 (by grind[Bd])
         rw[show Nat.min (len-i) (len-i)=len-i from Nat.min_self _] at Ns
         have nY:BH (CW (BU w) (CC (vs.take i++List.replicate (len+1-i) z++rest) i [yv]) e).drew w.heap.size (CC (CC (vs.take i++List.replicate (len+1-i) z++rest) i [yv]) (i+1) ((vs.drop i).take (len-i))) e
           = CW (BU (BU w)) (CC (CC (vs.take i++List.replicate (len+1-i) z++rest) i [yv]) (i+1) ((vs.drop i).take (len-i))) e:=
          GR (w:=BU (BU w)) (us:=CC (CC (vs.take i++List.replicate (len+1-i) z++rest) i [yv]) (i+1) ((vs.drop i).take (len-i))) (vs:=CC (vs.take i++List.replicate (len+1-i) z++rest) i [yv])
         rw[nY] at Ns;refine(hc.AEa w b len cap yb yo 1 i w.heap.size J7 (by omega) hcap (by omega) hlt NC _ _ _ hrun Xo Ns).mono ?_;rintro ex w' ⟨rfl,rfl⟩;obtain⟨x1,y1⟩:=hI.drew (L:=L);obtain⟨x2,y2⟩:=y1.drew (L:=L);obtain⟨x3,y3⟩:=y2.kill (L:=L) Hz b6;have VG:=pG (vs.take i++List.replicate (len+1-i) z++rest) vs yv i len b4 (by omega) (by omega) hAt
         obtain⟨x4,y4⟩:=y3.Rz (L:=L) (cs:=cs.take i++AV.pv c::cs.drop i) (vs:=CC (CC (vs.take i++List.replicate (len+1-i) z++rest) i [yv]) (i+1) ((vs.drop i).take (len-i))) e
          (by grind[Bd]) (by rw[Be,VG]; exact(AYz _ (x1.trans x2)).mono x3)
         refine⟨_,_,rfl,?_,((x1.trans x2).trans x3).trans x4,y4⟩;refine V.ref (n:=J7) (e:=e) (by simp[AH.Fg,BU]) NC ?_ (by simp)
         grind[BU,CD,Bl,Bd]
    grind
   .cases OI:(Nat.beq i 0&&A9 (.pv c)) with
    | false=>grind
    | true=>
     rw[OI] at h;simp only[AN,BG,BK] at h;obtain⟨rfl,rfl⟩:=h;simp only[AE] at OI;obtain⟨b1,b2⟩:=OI;have:=Bz b1;subst this;have hu':=hu;cases hu with
     | @AB _ base b o sz f2 Ns=>
      refine ot _ _ _ _ base 0 0 hu' rfl (Aa _) ?_;unfold Ij;simp[hc.ht,hi,hzz,hs1,Cx,rowsOf,b2];omega
   grind
 grind
end Go.Tel
