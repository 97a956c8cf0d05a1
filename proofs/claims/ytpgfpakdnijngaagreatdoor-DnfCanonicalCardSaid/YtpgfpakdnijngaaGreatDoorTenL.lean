/-
  A told call: slices.Insert of one element of one cell.
-/
import Derived.Test.YtpgfpakdnijngaaGreatDoorTenJ
import Derived.Laws.Externs
import GoSem.Extern.SlicesOverlaps
set_option linter.all false
namespace Go.Tel
def Z0 (L:A3) (args:List AV) (s:AM):Option (AV×AM):=match args with
 | [x,.pv (.sc (.int .i64 (.ofNat i))),.AB [[c]]]=>match x with
  | .ref id 0 len 1=>match s.bs[id]? with
   | some cs=>
    bif A1 (.pv c)&&(Nat.beq len cs.length&&(Nat.ble 1 len&&(Nat.ble i len&&(Nat.ble len 1000000000&&(Nat.ble L.ro id&&cs.all A1))))) then
     some (.ref s.bs.length 0 (len+1) 1,{ s with bs:=s.bs.set id []++[cs.take i++.pv c::cs.drop i] })
    else none
   | none=>none
  | .AB []=>bif Nat.beq i 0&&A1 (.pv c) then some (.ref s.bs.length 0 1 1,{ s with bs:=s.bs++[[.pv c]] }) else none
  | _=>none
 | _=>none
theorem X8 {P:Program} {w:World} {params results:Array TypeId} {t e:TypeId} {i:TypeInfo} {yb yo b o n m c1 c2:Nat} {y:Value} {vs:List Value} {et:TypeId} (hp:params[0]?=some t) (ht:P.underlying t=some (.slice e)) (hi:P.info? e=some i) (h1:i.size=1)
  (hy:w.cell? ⟨yb,yo,none⟩=some y) (hb:w.heap[b]?=some (.cells ⟨vs⟩ et (0,0))) (hv:vs≠[]) (hne:yb≠b) :
  (Extern.SlicesOverlaps.overlaps params results #[.slice (some ⟨yb,yo,none⟩) n c1,.slice (some ⟨b,o,none⟩) m c2]).run P w=.ok (.bool false) w:=by
 have hys:∃ey ny,w.shape? yb=some (ey,ny+1):=by
  unfold World.cell? at hy;unfold World.shape?;split at hy
  .rename_i cs ey fz h
   rw[h];simp only at hy;have:yo<cs.size:=by grind
   exact⟨ey,cs.size-1,by grind⟩
  grind
 obtain⟨ey,ny,hys⟩:=hys;have Vg:w.shape? b=some (et,vs.length):=Bh hb;have hfz:∀o,w.frozen? ⟨b,o,none⟩=false:=λo=>by grind[World.frozen?]
 have hvl:vs.length≠0:=by grind
 have hd:Extern.SlicesOverlaps.overlaps params results #[.slice (some ⟨yb,yo,none⟩) n c1,.slice (some ⟨b,o,none⟩) m c2]=(do
   let some t:=params[0]? | stuck _
   let .slice elem <-underlying t|stuck _
   let size <-sizeOf elem
   if n=0\/m=0\/size=0 then pure (.bool false)
   else if yb != b&&(<-frozen ⟨yb,yo,none⟩)&&(<-frozen ⟨b,o,none⟩) then unsupported .addressObserved
   else do
    if yb != b then do
     noView ⟨yb,yo,none⟩; noView ⟨b,o,none⟩
     if <-mayBeOne ⟨yb,yo,none⟩ ⟨b,o,none⟩ then return .bool ((<-choose _)==1)
    pure (.bool (yb==b&&yo<o+m*size&&o<yo+n*size))):=rfl
 simp[*,run_underlying,run_sizeOf,noView,viewAt,mayBeOne,stringish]
structure AM9 (P:Program) (f fo:FuncId) (t e ti:TypeId):Prop where
 body:K7 P f
 ht:P.underlying t=some (.slice e)
 eB:P.underlying ti=some (.int .i64)
 info:∃i z,P.info? e=some i/\i.size=1/\i.bytes<=16/\i.zero=some z/\z.cells=#[z]/\z.oneCell'=true
 zero:∃z,zeroOf P e=some [z]
 ANA:∀(w w1:World) (s:Option Addr) (len cap yb yo Ge:Nat) (v1:Value),len<=cap ->
  (Builtin.append_ #[t,t] t #[.slice s len cap,.slice (some ⟨yb,yo,none⟩) 1 Ge]).run P w=.ok v1 w1 ->
  Calls P f #[.slice s len cap,.int .i64 len,.slice (some ⟨yb,yo,none⟩) 1 Ge] w λe' w'=>e'=.returned v1/\w'=w1
 ov:∀(w:World) (yb yo Ge b o m c2:Nat) (y:Value) (vs:List Value) (et:TypeId),w.cell? ⟨yb,yo,none⟩=some y->w.heap[b]?=some (.cells ⟨vs⟩ et (0,0))->vs≠[]->yb≠b ->
  (callFunc fo #[.slice (some ⟨yb,yo,none⟩) 1 Ge,.slice (some ⟨b,o,none⟩) m c2]).run P w=.ok (.value (.bool false)) w
 ADn:∀(w:World) (b len cap yb yo Ge i:Nat),len<=1000000000000000000->len+1<=cap->i<len->∀(w1 w2:World),
  (callFunc fo #[.slice (some ⟨yb,yo,none⟩) 1 Ge,.slice (some ⟨b,i+1,none⟩) (len-i) (cap-(i+1))]).run P w=.ok (.value (.bool false)) w ->
  (Builtin.copy_ #[t,t] ti #[.slice (some ⟨b,i+1,none⟩) (len-i) (cap-(i+1)),.slice (some ⟨b,i,none⟩) (len+1-i) (cap-i)]).run P w.drew=.ok (goInt (len-i:Nat)) w1 ->
  (Builtin.copy_ #[t,t] ti #[.slice (some ⟨b,i,none⟩) (len+1-i) (cap-i),.slice (some ⟨yb,yo,none⟩) 1 Ge]).run P w1=.ok (goInt (1:Nat)) w2 ->
  Calls P f #[.slice (some ⟨b,0,none⟩) len cap,.int .i64 i,.slice (some ⟨yb,yo,none⟩) 1 Ge] w λe' w'=>e'=.returned (.slice (some ⟨b,0,none⟩) (len+1) cap)/\w'=w2
 ADo:∀(w:World) (b len cap yb yo Ge i sz J2:Nat),len<=1000000000000000000->len<=cap->cap<len+1->i<len->len+1<=J2->∀(w1 w2 w3:World),
  (Builtin.append_ #[t,ti] t #[.slice (some ⟨b,0,none⟩) i cap,.int .i64 ((len:Int)+1-(i:Int))]).run P w=.ok (.slice (some ⟨sz,0,none⟩) (len+1) J2) w1 ->
  (Builtin.copy_ #[t,t] ti #[.slice (some ⟨sz,i,none⟩) (len+1-i) (J2-i),.slice (some ⟨yb,yo,none⟩) 1 Ge]).run P w1=.ok (goInt (1:Nat)) w2 ->
  (Builtin.copy_ #[t,t] ti #[.slice (some ⟨sz,i+1,none⟩) (len-i) (J2-(i+1)),.slice (some ⟨b,i,none⟩) (len-i) (cap-i)]).run P w2.drew=.ok (goInt (len-i:Nat)) w3 ->
  Calls P f #[.slice (some ⟨b,0,none⟩) len cap,.int .i64 i,.slice (some ⟨yb,yo,none⟩) 1 Ge] w λe' w'=>e'=.returned (.slice (some ⟨sz,0,none⟩) (len+1) J2)/\w'=w3
theorem Fq {P:Program} {w:World} {b o n m cap:Nat} (us:List Value) (hl:us.length=n) (h:∀(j:Nat) u,us[j]?=some u->w.cell? ⟨b,o+j,none⟩=some u) :
  (Builtin.firstCells 1 n (.slice (some ⟨b,o,none⟩) m cap)).run P w=.ok us.toArray w:=by grind[EP,Builtin.firstCells]
theorem xp (vs:List Value) (c:Value) (i len:Nat) (hi:i<=len) (hl:len+1<=vs.length) :
  (B4 (B4 vs (i+1) ((vs.drop i).take (len-i))) i [c]).take (len+1)=(vs.take len).take i++c::(vs.take len).drop i:=by
 have h1:((vs.drop i).take (len-i)).length=len-i:=by grind
 have hA:((vs.take len).take i).length=i:=by grind
 have hM:(B4 vs (i+1) ((vs.drop i).take (len-i))).length=vs.length:=BT _ _ _;apply Ia;intro q;rw[Rb]
 by_cases hq:q<len+1
 .rw[if_pos hq]
  rcases Nat.lt_trichotomy q i with h|h|h
  .grind[FC]
  .grind[B4]
  .obtain⟨r,rfl⟩:∃r,q=i+1+r:=⟨q-i-1,by omega⟩
   have hr:r<((vs.drop i).take (len-i)).length:=by omega
   rw[FC _ _ _ _ (.inr (by simp)),Gn _ vs (i+1) r _ (Ap hr) (by omega),Ev (by omega),hA]
   grind
 grind
theorem pK (A vs:List Value) (c:Value) (i len:Nat) (hi:i<=len) (hl:len<=vs.length) (hA:len+1<=A.length) (hp:A.take i=vs.take i) :
  (B4 (B4 A i [c]) (i+1) ((vs.drop i).take (len-i))).take (len+1)=(vs.take len).take i++c::(vs.take len).drop i:=by
 have h1:((vs.drop i).take (len-i)).length=len-i:=by grind
 have hB:((vs.take len).take i).length=i:=by grind
 have hM:(B4 A i [c]).length=A.length:=BT _ _ _;apply Ia;intro q;rw[Rb]
 by_cases hq:q<len+1
 .rw[if_pos hq]
  rcases Nat.lt_trichotomy q i with h|h|h
  .grind[FC]
  .grind[B4,FC]
  .obtain⟨r,rfl⟩:∃r,q=i+1+r:=⟨q-i-1,by omega⟩
   have hr:r<((vs.drop i).take (len-i)).length:=by omega
   rw[Gn _ _ (i+1) r _ (Ap hr) (by omega),Ev (by omega),hB]
   grind
 grind
theorem ABm {E:Env} {f fo:FuncId} {t e ti:TypeId} (hc:AM9 E.P f fo t e ti):Pr E f Z0:=by
 intro L args s s' v g w vs h hI hargs;refine⟨hc.body,?_⟩;obtain⟨i0,z,hi,hs1,hby,hz,hzc,hzo⟩:=hc.info;obtain⟨zz,hzz⟩:=hc.zero;unfold Z0 at h;split at h
 .rename_i x i c
  obtain⟨u,us,rfl,hu,hn⟩:=hargs.cases;obtain⟨u1,us1,rfl,hu1,hn1⟩:=hn.cases;obtain⟨u2,us2,rfl,hu2,hn2⟩:=hn1.cases;have:=hn2.E4; subst this;have:=hu1.Cx; subst this;have hyV:=hu2;cases hu2 with
  | @AB _ base yb yo ysz ff hr=>
   have AWw:ysz=1:=by simpa using(hr.hsz [c] (by simp)).symm
   subst AWw;have:=hr.hbase (by simp) (by omega);subst this;obtain⟨hyI,hyc⟩:=hr.hc 0 [c] 0 c rfl rfl;have hyv:=hr.hv 0 [c] 0 c rfl rfl;simp only[XL,GQ] at hyI hyc;simp only[CI,Ce,Cg] at hyV hargs ⊢;generalize hy0:ff 0 0=yv at hyc hyv
   have ACc:∀(x u:_) (r:AV) (s1:AM) (sb:Option Addr) (len cap:Nat),V g w x u->u=.slice sb len cap->len<=cap->Ih E.P ⟨L.n0,L.ro,L.rt,λ_=>true,L.rr,L.pl⟩ s t x (.AB [[c]])=some (r,s1) ->
     Calls E.P f #[u,.int .i64 len,.slice (some ⟨yb,yo,none⟩) 1 1] w λe w'=>∃v' g',e=.returned v'/\V g' w' r v'/\Ext L g w g' w'/\Inv E g' w' s1:=by
    intro x u r s1 sb len cap hx he hlc ha;obtain⟨v',w',g',k1,k2,k3,k4⟩:=NA (T:=t) (u:=t) (ts:=[]) hI hx hyV hc.ht (by simp) ha;subst he;refine(hc.ANA w w' sb len cap yb yo 1 v' hlc k1).mono ?_;rintro e w'' ⟨rfl,rfl⟩;exact⟨v',g',rfl,k2,k3.Aj rfl rfl,k4⟩
   split at h
   .rename_i id len
    split at h
    .rename_i cs hcs
     cases OQ:(A1 (.pv c)&&(Nat.beq len cs.length&&(Nat.ble 1 len&&(Nat.ble i len&&(Nat.ble len 1000000000&&(Nat.ble L.ro id&&cs.all A1)))))) with
     | false=>grind
     | true=>
      rw[OQ] at h;simp only[AH,Aw,A4] at h;obtain⟨rfl,rfl⟩:=h;simp only[AD] at OQ;obtain⟨b1,b2,b3,b4,b5,b6,b7⟩:=OQ;have b2:=Bo b2;have b3:=Cr b3;have b4:=Cr b4;have b5:=Cr b5;have b6:=Cr b6;have AZU:yv.oneCell'=true:=JG (.pv hyv) b1;cases hu with
      | Il hd=>
       have:=hI.DW id hd
       grind
      | @ref _ _ _ _ b cap n te H6 hcap hsh qW=>
       obtain⟨cs',vs,e',k1,k2,kle,k3⟩:=hI.blk id b H6;rw[hcs] at k1; simp only[Aw] at k1; subst k1;rw[Bh k2] at hsh;simp only[Aw,A4] at hsh;obtain⟨he,hnv⟩:=hsh;subst he hnv;have hcv:cap<=vs.length:=by omega
       have hne:yb≠b:=λq=>hI.Fb id b yo H6 (q ▸ hyI)
       have hvs:vs≠[]:=λq=>by grind
       have hone:∀u∈vs.take len,u.oneCell'=true:=by rw[b2]; exact k3.one b7
       have hM1:((vs.drop i).take (len-i)).length=len-i:=by grind
       have AE2:∀u∈(vs.drop i).take (len-i),u.oneCell'=true:=λu hu=>hone u (by
        have:(vs.drop i).take (len-i)=(vs.take len).drop i:=by rw[List.drop_take]
        grind)
       have Ba:(cs.take i++AV.pv c::cs.drop i).length=len+1:=by grind
       have k3':VL g w cs (vs.take len):=by grind
       have AW0:∀(w2:World) (e2:Ext L g w g w2),VL g w2 (cs.take i++AV.pv c::cs.drop i) ((vs.take len).take i++yv::(vs.take len).drop i):=λw2 e2=>
        ((k3'.mono e2).take i).append (.cons ((V.pv hyv).mono e2) ((k3'.mono e2).drop i))
       by_cases hil:i=len
       .subst hil
        have ha:Ih E.P ⟨L.n0,L.ro,L.rt,λ_=>true,L.rr,L.pl⟩ s t (.ref id 0 i 1) (.AB [[c]])=some (.ref s.bs.length 0 (i+1) 1,{ s with bs:=s.bs.set id []++[cs.take i++AV.pv c::cs.drop i] }):=by
         have hal:alive s id=true:=by
          unfold alive;rw[hcs];cases cs with
          | nil=>grind
          | cons a l=>rfl
         unfold Ih;have hby2:(i+1)*i0.bytes<=2 ^ 45:=A6 (EY _ hby) (by omega);simp[hc.ht,hi,hzz,hs1,DN,rowsOf,b1,hcs,hal,b2,b6]
         grind
        exact ACc _ _ _ _ _ i cap (.ref H6 hcap (Bh k2) (by omega)) rfl hcap ha
       .have hlt:i<len:=by omega
        by_cases hroom:len+1<=cap
        .have k2d:w.drew.heap[b]?=some (.cells ⟨vs⟩ e' (0,0)):=k2
         have NG:=PN (P:=E.P) (w:=w.drew) (t:=t) (u:=t) (elem:=e) (T:=ti) (i:=i0) (b:=b) (o:=i+1) (dl:=len-i) (dc:=cap-(i+1)) (x:=.slice (some ⟨b,i,none⟩) (len+1-i) (cap-i)) (n:=len+1-i) (us:=(vs.drop i).take (len-i)) (vs:=vs) (et:=e') hc.ht hi hs1
          (by rfl) (by grind[Fq,Bg]) AE2 k2d (by omega)
         rw[show Nat.min (len+1-i) (len-i)=len-i from Nat.min_eq_right (by omega)] at NG;have k2e:(A7 w.drew b (B4 vs (i+1) ((vs.drop i).take (len-i))) e').heap[b]?=some (.cells ⟨B4 vs (i+1) ((vs.drop i).take (len-i))⟩ e' (0,0)):=by grind[BQ]
         have Pt:=PN (P:=E.P) (w:=A7 w.drew b (B4 vs (i+1) ((vs.drop i).take (len-i))) e') (t:=t) (u:=t) (elem:=e) (T:=ti) (i:=i0) (b:=b) (o:=i) (dl:=len+1-i) (dc:=cap-i) (x:=.slice (some ⟨yb,yo,none⟩) 1 1) (n:=1) (us:=[yv]) (vs:=B4 vs (i+1) ((vs.drop i).take (len-i))) (et:=e') hc.ht hi hs1
          (by rfl) (by
           rw[show Nat.min 1 (len+1-i)=1 from Rp (by omega)]
           exact Fq [yv] rfl (λj u hj=>by
            cases j with
            | zero=>
             simp at hj; subst hj;rw[GQ,B8 (w:=w) (by rw[BQ,if_neg (FL hne)]; rfl)];omega
            | succ j=>grind)) (by grind) k2e (by grind[BT])
         rw[show Nat.min 1 (len+1-i)=1 from Rp (by omega),D9] at Pt;refine(hc.ADn w b len cap yb yo 1 i (by omega) hroom hlt _ _ (hc.ov w yb yo 1 b (i+1) (len-i) (cap-(i+1)) yv vs e' hyc k2 hvs hne) NG Pt).mono ?_;rintro ex w' ⟨rfl,rfl⟩;obtain⟨e1,i1⟩:=hI.drew (L:=L);have VZ:=xp vs yv i len b4 (by omega)
         obtain⟨r1,r2⟩:=i1.sQ (L:=L) (cs':=cs.take i++AV.pv c::cs.drop i) (vs':=B4 (B4 vs (i+1) ((vs.drop i).take (len-i))) i [yv]) H6 k2d (by grind[BT]) b6
          (by grind[BT]) (by grind)
         refine⟨_,_,rfl,?_,e1.trans r1,r2⟩;refine V.ref (n:=vs.length) (e:=e') (by simp[AI.Ff]) hroom ?_ (by omega);have qT:(A7 (BK w) b (B4 (B4 vs (i+1) ((vs.drop i).take (len-i))) i [yv]) e').heap[b]?=some (.cells ⟨B4 (B4 vs (i+1) ((vs.drop i).take (len-i))) i [yv]⟩ e' (0,0)):=by grind[BQ,BK]
         have:=Bh qT;rw[BT,BT] at this;exact this
        .have ARa:(vs.take i).length=i:=by grind
         obtain⟨J2,rest,Na,SP,hrun⟩:=RZ (P:=E.P) (w:=w) (T:=t) (base:=some ⟨b,0,none⟩) (sLen:=i) (sCap:=cap) (n:=len+1-i) (os:=vs.take i) hc.ht hi hc.eB hs1 hz hzc
          (Fq _ ARa (λj u hj=>by grind[Bg,BK])) (by omega) (by omega) (by omega) (A6 (EY _ hby) (by omega)) (by omega)
         have e1:i+(len+1-i)=len+1:=by omega
         have e2:((len+1-i:Nat):Int)=(len:Int)+1-(i:Int):=by omega
         rw[e1] at Na SP hrun;rw[e2] at hrun;have hsz:b<w.heap.size:=HU k2;have hAl:(vs.take i++List.replicate (len+1-i) z++rest).length=J2:=by grind
         have hAt:(vs.take i++List.replicate (len+1-i) z++rest).take i=vs.take i:=by
          rw[EX,Rf ARa]
         have hw1:(CV (BK w) (vs.take i++List.replicate (len+1-i) z++rest) e).heap[w.heap.size]?=some (.cells ⟨vs.take i++List.replicate (len+1-i) z++rest⟩ e (0,0)):=by grind[B5,BK]
         have hyb:yb<w.heap.size:=hI.JF _ _ hyI
         have NG:=PN (P:=E.P) (w:=CV (BK w) (vs.take i++List.replicate (len+1-i) z++rest) e) (t:=t) (u:=t) (elem:=e) (T:=ti) (i:=i0) (b:=w.heap.size) (o:=i) (dl:=len+1-i) (dc:=J2-i) (x:=.slice (some ⟨yb,yo,none⟩) 1 1) (n:=1) (us:=[yv]) (et:=e) hc.ht hi hs1
          (by rfl) (by
           rw[show Nat.min 1 (len+1-i)=1 from Rp (by omega)];exact Fq [yv] rfl (λj u hj=>by grind[B8,A0,BK])) (by grind) hw1 (by grind)
         have hpp:A7 (CV (BK w) (vs.take i++List.replicate (len+1-i) z++rest) e) w.heap.size (B4 (vs.take i++List.replicate (len+1-i) z++rest) i [yv]) e=CV (BK w) (B4 (vs.take i++List.replicate (len+1-i) z++rest) i [yv]) e:=
          GJ (w:=BK w)
         rw[show Nat.min 1 (len+1-i)=1 from Rp (by omega),hpp] at NG
         have hw2:(CV (BK w) (B4 (vs.take i++List.replicate (len+1-i) z++rest) i [yv]) e).drew.heap[w.heap.size]?=some (.cells ⟨B4 (vs.take i++List.replicate (len+1-i) z++rest) i [yv]⟩ e (0,0)):=by
          show(CV (BK w) (B4 (vs.take i++List.replicate (len+1-i) z++rest) i [yv]) e).heap[w.heap.size]?=_
          grind[B5,BK]
         have Pt:=PN (P:=E.P) (w:=(CV (BK w) (B4 (vs.take i++List.replicate (len+1-i) z++rest) i [yv]) e).drew) (t:=t) (u:=t) (elem:=e) (T:=ti) (i:=i0) (b:=w.heap.size) (o:=i+1) (dl:=len-i) (dc:=J2-(i+1)) (x:=.slice (some ⟨b,i,none⟩) (len-i) (cap-i)) (n:=len-i) (us:=(vs.drop i).take (len-i)) (et:=e) hc.ht hi hs1
          (by rfl) (by
           rw[show Nat.min (len-i) (len-i)=len-i from Nat.min_self _]
           exact Fq _ hM1 (λj u hj=>by
            show(CV (BK w) (B4 (vs.take i++List.replicate (len+1-i) z++rest) i [yv]) e).cell? ⟨b,i+j,none⟩=_
            grind[A0,BK,Bg])) AE2 hw2 (by grind[BT])
         rw[show Nat.min (len-i) (len-i)=len-i from Nat.min_self _] at Pt
         have oC:A7 (CV (BK w) (B4 (vs.take i++List.replicate (len+1-i) z++rest) i [yv]) e).drew w.heap.size (B4 (B4 (vs.take i++List.replicate (len+1-i) z++rest) i [yv]) (i+1) ((vs.drop i).take (len-i))) e
           = CV (BK (BK w)) (B4 (B4 (vs.take i++List.replicate (len+1-i) z++rest) i [yv]) (i+1) ((vs.drop i).take (len-i))) e:=
          GJ (w:=BK (BK w)) (us:=B4 (B4 (vs.take i++List.replicate (len+1-i) z++rest) i [yv]) (i+1) ((vs.drop i).take (len-i))) (vs:=B4 (vs.take i++List.replicate (len+1-i) z++rest) i [yv])
         rw[oC] at Pt;refine(hc.ADo w b len cap yb yo 1 i w.heap.size J2 (by omega) hcap (by omega) hlt Na _ _ _ hrun NG Pt).mono ?_;rintro ex w' ⟨rfl,rfl⟩;obtain⟨x1,y1⟩:=hI.drew (L:=L);obtain⟨x2,y2⟩:=y1.drew (L:=L);obtain⟨x3,y3⟩:=y2.kill (L:=L) H6 b6;have VZ:=pK (vs.take i++List.replicate (len+1-i) z++rest) vs yv i len b4 (by omega) (by omega) hAt
         obtain⟨x4,y4⟩:=y3.SL (L:=L) (cs:=cs.take i++AV.pv c::cs.drop i) (vs:=B4 (B4 (vs.take i++List.replicate (len+1-i) z++rest) i [yv]) (i+1) ((vs.drop i).take (len-i))) e
          (by grind[BT]) (by rw[Ba,VZ]; exact(AW0 _ (x1.trans x2)).mono x3)
         refine⟨_,_,rfl,?_,((x1.trans x2).trans x3).trans x4,y4⟩;refine V.ref (n:=J2) (e:=e) (by simp[AI.Ff,BK]) Na ?_ (by simp)
         grind[BK,B5,Bh,BT]
    grind
   .cases OQ:(Nat.beq i 0&&A1 (.pv c)) with
    | false=>grind
    | true=>
     rw[OQ] at h;simp only[AH,Aw,A4] at h;obtain⟨rfl,rfl⟩:=h;simp only[AD] at OQ;obtain⟨b1,b2⟩:=OQ;have:=Bo b1;subst this;have hu':=hu;cases hu with
     | @AB _ base b o sz f2 Pt=>
      refine ACc _ _ _ _ base 0 0 hu' rfl (AN _) ?_;unfold Ih;simp[hc.ht,hi,hzz,hs1,DN,rowsOf,b2];omega
   grind
 grind
end Go.Tel
