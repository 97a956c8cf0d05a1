/-
  A told call: slices.Insert of one element of one cell.
-/
import Derived.Test.YtpgfpakdnijngaaGreatDoorTenJ
import Derived.Laws.Externs
import GoSem.Extern.SlicesOverlaps
set_option linter.all false
namespace Go.Tel
def bI (L:BL) (args:List AV) (s:AQ):Option (AV×AQ):=match args with
 | [x,.pv (.sc (.int .i64 (.ofNat i))),.AE [[c]]]=>match x with
  | .ref id 0 len 1=>match s.bs[id]? with
   | some cs=>
    bif BD (.pv c)&&(Nat.beq len cs.length&&(Nat.ble 1 len&&(Nat.ble i len&&(Nat.ble len 1000000000&&(Nat.ble L.ro id&&cs.all BD))))) then
     some (.ref s.bs.length 0 (len+1) 1,{ s with bs:=s.bs.set id []++[cs.take i++.pv c::cs.drop i] })
    else none
   | none=>none
  | .AE []=>bif Nat.beq i 0&&BD (.pv c) then some (.ref s.bs.length 0 1 1,{ s with bs:=s.bs++[[.pv c]] }) else none
  | _=>none
 | _=>none
theorem Y6 {P:Program} {w:World} {params results:Array TypeId} {t e:TypeId} {i:TypeInfo} {yb yo b o n m c1 c2:Nat} {y:Value} {vs:List Value} {et:TypeId} (hp:params[0]?=some t) (ht:P.underlying t=some (.slice e)) (hi:P.info? e=some i) (h1:i.size=1)
  (hy:w.cell? ⟨yb,yo,none⟩=some y) (hb:w.heap[b]?=some (.cells ⟨vs⟩ et (0,0))) (hv:vs≠[]) (hne:yb≠b) :
  (Extern.SlicesOverlaps.overlaps params results #[.slice (some ⟨yb,yo,none⟩) n c1,.slice (some ⟨b,o,none⟩) m c2]).run P w=.ok (.bool false) w:=by
 have hys:∃ey ny,w.shape? yb=some (ey,ny+1):=by
  unfold World.cell? at hy;unfold World.shape?;split at hy
  .rename_i cs ey fz h
   rw[h];simp only at hy;have:yo<cs.size:=AB;exact⟨ey,cs.size-1,AB⟩
  grind
 obtain⟨ey,ny,hys⟩:=hys;have aO:w.shape? b=some (et,vs.length):=Bv hb;have hfz:∀o,w.frozen? ⟨b,o,none⟩=false:=λo=>by grind[World.frozen?]
 have hvl:vs.length≠0:=AB
 have hd:Extern.SlicesOverlaps.overlaps params results #[.slice (some ⟨yb,yo,none⟩) n c1,.slice (some ⟨b,o,none⟩) m c2]=(do
   let some t:=params[0]? | stuck _
   let .slice elem <-underlying t|stuck _
   let size <-sizeOf elem
   if n=0\/m=0\/size=0 then pure (.bool false)
   else if yb != b&&(<-frozen ⟨yb,yo,none⟩)&&(<-frozen ⟨b,o,none⟩) then unsupported .addressObserved
   else do
    if yb != b then do
     noView ⟨yb,yo,none⟩; noView ⟨b,o,none⟩
     if <-mayBeOne ⟨yb,yo,none⟩ ⟨b,o,none⟩ then return .bool ((<-choose _)==1)
    pure (.bool (yb==b&&yo<o+m*size&&o<yo+n*size))):=rfl
 simp[*,run_underlying,run_sizeOf,noView,viewAt,mayBeOne,stringish]
structure ANw (P:Program) (f fo:FuncId) (t e ti:TypeId):Prop where
 body:Lq P f
 ht:P.underlying t=some (.slice e)
 fO:P.underlying ti=some (.int .i64)
 info:∃i z,P.info? e=some i/\i.size=1/\i.bytes<=16/\i.zero=some z/\z.cells=#[z]/\z.oneCell'=true
 zero:∃z,zeroOf P e=some [z]
 ANx:∀(w w1:World) (s:Option Addr) (len cap yb yo Gz:Nat) (v1:Value),len<=cap ->
  (Builtin.append_ #[t,t] t #[.slice s len cap,.slice (some ⟨yb,yo,none⟩) 1 Gz]).run P w=.ok v1 w1 ->
  Calls P f #[.slice s len cap,.int .i64 len,.slice (some ⟨yb,yo,none⟩) 1 Gz] w λe' w'=>e'=.returned v1/\w'=w1
 ov:∀(w:World) (yb yo Gz b o m c2:Nat) (y:Value) (vs:List Value) (et:TypeId),w.cell? ⟨yb,yo,none⟩=some y->w.heap[b]?=some (.cells ⟨vs⟩ et (0,0))->vs≠[]->yb≠b ->
  (callFunc fo #[.slice (some ⟨yb,yo,none⟩) 1 Gz,.slice (some ⟨b,o,none⟩) m c2]).run P w=.ok (.value (.bool false)) w
 ACl:∀(w:World) (b len cap yb yo Gz i:Nat),len<=1000000000000000000->len+1<=cap->i<len->∀(w1 w2:World),
  (callFunc fo #[.slice (some ⟨yb,yo,none⟩) 1 Gz,.slice (some ⟨b,i+1,none⟩) (len-i) (cap-(i+1))]).run P w=.ok (.value (.bool false)) w ->
  (Builtin.copy_ #[t,t] ti #[.slice (some ⟨b,i+1,none⟩) (len-i) (cap-(i+1)),.slice (some ⟨b,i,none⟩) (len+1-i) (cap-i)]).run P w.drew=.ok (goInt (len-i:Nat)) w1 ->
  (Builtin.copy_ #[t,t] ti #[.slice (some ⟨b,i,none⟩) (len+1-i) (cap-i),.slice (some ⟨yb,yo,none⟩) 1 Gz]).run P w1=.ok (goInt (1:Nat)) w2 ->
  Calls P f #[.slice (some ⟨b,0,none⟩) len cap,.int .i64 i,.slice (some ⟨yb,yo,none⟩) 1 Gz] w λe' w'=>e'=.returned (.slice (some ⟨b,0,none⟩) (len+1) cap)/\w'=w2
 ACm:∀(w:World) (b len cap yb yo Gz i sz Kj:Nat),len<=1000000000000000000->len<=cap->cap<len+1->i<len->len+1<=Kj->∀(w1 w2 w3:World),
  (Builtin.append_ #[t,ti] t #[.slice (some ⟨b,0,none⟩) i cap,.int .i64 ((len:Int)+1-(i:Int))]).run P w=.ok (.slice (some ⟨sz,0,none⟩) (len+1) Kj) w1 ->
  (Builtin.copy_ #[t,t] ti #[.slice (some ⟨sz,i,none⟩) (len+1-i) (Kj-i),.slice (some ⟨yb,yo,none⟩) 1 Gz]).run P w1=.ok (goInt (1:Nat)) w2 ->
  (Builtin.copy_ #[t,t] ti #[.slice (some ⟨sz,i+1,none⟩) (len-i) (Kj-(i+1)),.slice (some ⟨b,i,none⟩) (len-i) (cap-i)]).run P w2.drew=.ok (goInt (len-i:Nat)) w3 ->
  Calls P f #[.slice (some ⟨b,0,none⟩) len cap,.int .i64 i,.slice (some ⟨yb,yo,none⟩) 1 Gz] w λe' w'=>e'=.returned (.slice (some ⟨sz,0,none⟩) (len+1) Kj)/\w'=w3
theorem GD {P:Program} {w:World} {b o n m cap:Nat} (us:List Value) (hl:us.length=n) (h:∀(j:Nat) u,us[j]?=some u->w.cell? ⟨b,o+j,none⟩=some u) :
  (Builtin.firstCells 1 n (.slice (some ⟨b,o,none⟩) m cap)).run P w=.ok us.toArray w:=by grind[Ek,Builtin.firstCells]
theorem zN (vs:List Value) (c:Value) (i len:Nat) (hi:i<=len) (hl:len+1<=vs.length) :
  (CJ (CJ vs (i+1) ((vs.drop i).take (len-i))) i [c]).take (len+1)=(vs.take len).take i++c::(vs.take len).drop i:=by
 have h1:((vs.drop i).take (len-i)).length=len-i:=AB;have hA:((vs.take len).take i).length=i:=AB;have hM:(CJ vs (i+1) ((vs.drop i).take (len-i))).length=vs.length:=Bn _ _ _;apply Fm;intro q;rw[Ou]
 by_cases hq:q<len+1
 .rw[if_pos hq]
  rcases Nat.lt_trichotomy q i with h|h|h
  .grind[Fa]
  .grind[CJ]
  .obtain⟨r,rfl⟩:∃r,q=i+1+r:=⟨q-i-1,AA⟩
   have hr:r<((vs.drop i).take (len-i)).length:=AA;rw[Fa _ _ _ _ (.inr AD),G6 _ vs (i+1) r _ (Au hr) AA,EO AA,hA]
   grind
 grind
theorem rH (A vs:List Value) (c:Value) (i len:Nat) (hi:i<=len) (hl:len<=vs.length) (hA:len+1<=A.length) (hp:A.take i=vs.take i) :
  (CJ (CJ A i [c]) (i+1) ((vs.drop i).take (len-i))).take (len+1)=(vs.take len).take i++c::(vs.take len).drop i:=by
 have h1:((vs.drop i).take (len-i)).length=len-i:=AB;have hB:((vs.take len).take i).length=i:=AB;have hM:(CJ A i [c]).length=A.length:=Bn _ _ _;apply Fm;intro q;rw[Ou]
 by_cases hq:q<len+1
 .rw[if_pos hq]
  rcases Nat.lt_trichotomy q i with h|h|h
  .grind[Fa]
  .grind[CJ,Fa]
  .obtain⟨r,rfl⟩:∃r,q=i+1+r:=⟨q-i-1,AA⟩
   have hr:r<((vs.drop i).take (len-i)).length:=AA;rw[G6 _ _ (i+1) r _ (Au hr) AA,EO AA,hB]
   grind
 grind
theorem AAl {E:Env} {f fo:FuncId} {t e ti:TypeId} (hc:ANw E.P f fo t e ti):Ql E f bI:=by
 intro L args s s' v g w vs h hI hargs;refine⟨hc.body,?_⟩;obtain⟨i0,z,hi,hs1,hby,hz,hzc,hzo⟩:=hc.info;obtain⟨zz,hzz⟩:=hc.zero;unfold bI at h;split at h
 .rename_i x i c
  obtain⟨u,us,rfl,hu,hn⟩:=hargs.cases;obtain⟨u1,us1,rfl,hu1,hn1⟩:=hn.cases;obtain⟨u2,us2,rfl,hu2,hn2⟩:=hn1.cases;have:=hn2.GN; subst this;have:=hu1.DC; subst this;have hyV:=hu2;cases hu2 with
  | @AE _ base yb yo ysz ff hr=>
   have AaT:ysz=1:=by simpa using(hr.hsz [c] AD).symm
   subst AaT;have:=hr.hbase AD AA;subst this;obtain⟨hyI,hyc⟩:=hr.hc 0 [c] 0 c rfl rfl;have hyv:=hr.hv 0 [c] 0 c rfl rfl;simp only[YO,Gr] at hyI hyc;simp only[Bt,Bz,CQ] at hyV hargs ⊢;generalize hy0:ff 0 0=yv at hyc hyv
   have qh:∀(x u:_) (r:AV) (s1:AQ) (sb:Option Addr) (len cap:Nat),V g w x u->u=.slice sb len cap->len<=cap->JD E.P ⟨L.n0,L.ro,L.rt,λ_=>true,L.rr,L.pl⟩ s t x (.AE [[c]])=some (r,s1) ->
     Calls E.P f #[u,.int .i64 len,.slice (some ⟨yb,yo,none⟩) 1 1] w λe w'=>∃v' g',e=.returned v'/\V g' w' r v'/\Ext L g w g' w'/\Inv E g' w' s1:=by
    intro x u r s1 sb len cap hx he hlc ha;obtain⟨v',w',g',k1,k2,k3,k4⟩:=N2 (T:=t) (u:=t) (ts:=[]) hI hx hyV hc.ht AD ha;subst he;refine(hc.ANx w w' sb len cap yb yo 1 v' hlc k1).mono ?_;rintro e w'' ⟨rfl,rfl⟩;exact⟨v',g',rfl,k2,k3.A6 rfl rfl,k4⟩
   split at h
   .rename_i id len
    split at h
    .rename_i cs hcs
     cases MO:(BD (.pv c)&&(Nat.beq len cs.length&&(Nat.ble 1 len&&(Nat.ble i len&&(Nat.ble len 1000000000&&(Nat.ble L.ro id&&cs.all BD)))))) with
     | false=>grind
     | true=>
      rw[MO] at h;simp only[AM,BN,BU] at h;obtain⟨rfl,rfl⟩:=h;simp only[AH] at MO;obtain⟨b1,b2,b3,b4,b5,b6,b7⟩:=MO;have b2:=CC b2;have b3:=Gv b3;have b4:=Gv b4;have b5:=Gv b5;have b6:=Gv b6;have AcY:yv.oneCell'=true:=Jl (.pv hyv) b1;cases hu with
      | JI hd=>
       have:=hI.Dn id hd
       grind
      | @ref _ _ _ _ b cap n te IY hcap hsh sD=>
       obtain⟨cs',vs,e',k1,k2,kle,k3⟩:=hI.blk id b IY;rw[hcs] at k1; simp only[BN] at k1; subst k1;rw[Bv k2] at hsh;simp only[BN,BU] at hsh;obtain⟨he,hnv⟩:=hsh;subst he hnv;have hcv:cap<=vs.length:=AA;have hne:yb≠b:=λq=>hI.GO id b yo IY (q ▸ hyI)
       have hvs:vs≠[]:=λq=>by grind
       have hone:∀u∈vs.take len,u.oneCell'=true:=by rw[b2]; exact k3.one b7
       have hM1:((vs.drop i).take (len-i)).length=len-i:=AB
       have AFR:∀u∈(vs.drop i).take (len-i),u.oneCell'=true:=λu hu=>hone u (by
        have:(vs.drop i).take (len-i)=(vs.take len).drop i:=by rw[List.drop_take]
        grind)
       have Ff:(cs.take i++AV.pv c::cs.drop i).length=len+1:=AB;have k3':VL g w cs (vs.take len):=AB
       have AaX:∀(w2:World) (e2:Ext L g w g w2),VL g w2 (cs.take i++AV.pv c::cs.drop i) ((vs.take len).take i++yv::(vs.take len).drop i):=λw2 e2=>
        ((k3'.mono e2).take i).append (.cons ((V.pv hyv).mono e2) ((k3'.mono e2).drop i))
       by_cases hil:i=len
       .subst hil
        have ha:JD E.P ⟨L.n0,L.ro,L.rt,λ_=>true,L.rr,L.pl⟩ s t (.ref id 0 i 1) (.AE [[c]])=some (.ref s.bs.length 0 (i+1) 1,{ s with bs:=s.bs.set id []++[cs.take i++AV.pv c::cs.drop i] }):=by
         have hal:alive s id=true:=by
          unfold alive;rw[hcs];cases cs with
          | nil=>grind
          | cons a l=>rfl
         unfold JD;have hby2:(i+1)*i0.bytes<=2 ^ 45:=BK (Eu _ hby) AA;simp[hc.ht,hi,hzz,hs1,C6,rowsOf,b1,hcs,hal,b2,b6]
         grind
        exact qh _ _ _ _ _ i cap (.ref IY hcap (Bv k2) AA) rfl hcap ha
       .have hlt:i<len:=by omega
        by_cases hroom:len+1<=cap
        .have k2d:w.drew.heap[b]?=some (.cells ⟨vs⟩ e' (0,0)):=k2
         have Tk:=QL (P:=E.P) (w:=w.drew) (t:=t) (u:=t) (elem:=e) (T:=ti) (i:=i0) (b:=b) (o:=i+1) (dl:=len-i) (dc:=cap-(i+1)) (x:=.slice (some ⟨b,i,none⟩) (len+1-i) (cap-i)) (n:=len+1-i) (us:=(vs.drop i).take (len-i)) (vs:=vs) (et:=e') hc.ht hi hs1
          AR (by grind[GD,Bu]) AFR k2d AA
         rw[show Nat.min (len+1-i) (len-i)=len-i from Nat.min_eq_right AA] at Tk;have k2e:(BO w.drew b (CJ vs (i+1) ((vs.drop i).take (len-i))) e').heap[b]?=some (.cells ⟨CJ vs (i+1) ((vs.drop i).take (len-i))⟩ e' (0,0)):=by grind[Bh]
         have Ng:=QL (P:=E.P) (w:=BO w.drew b (CJ vs (i+1) ((vs.drop i).take (len-i))) e') (t:=t) (u:=t) (elem:=e) (T:=ti) (i:=i0) (b:=b) (o:=i) (dl:=len+1-i) (dc:=cap-i) (x:=.slice (some ⟨yb,yo,none⟩) 1 1) (n:=1) (us:=[yv]) (vs:=CJ vs (i+1) ((vs.drop i).take (len-i))) (et:=e') hc.ht hi hs1
          AR (by
           rw[show Nat.min 1 (len+1-i)=1 from O6 AA]
           exact GD [yv] rfl (λj u hj=>by
            cases j with
            | zero=>
             simp at hj; subst hj;rw[Gr,Ck (w:=w) (by rw[Bh,if_neg (GK hne)]; rfl)];omega
            | succ j=>grind)) AB k2e (by grind[Bn])
         rw[show Nat.min 1 (len+1-i)=1 from O6 AA,EX] at Ng;refine(hc.ACl w b len cap yb yo 1 i AA hroom hlt _ _ (hc.ov w yb yo 1 b (i+1) (len-i) (cap-(i+1)) yv vs e' hyc k2 hvs hne) Tk Ng).mono ?_;rintro ex w' ⟨rfl,rfl⟩;obtain⟨e1,i1⟩:=hI.drew (L:=L);have Vl:=zN vs yv i len b4 AA
         obtain⟨r1,r2⟩:=i1.s7 (L:=L) (cs':=cs.take i++AV.pv c::cs.drop i) (vs':=CJ (CJ vs (i+1) ((vs.drop i).take (len-i))) i [yv]) IY k2d (by grind[Bn]) b6
          (by grind[Bn]) AB
         refine⟨_,_,rfl,?_,e1.trans r1,r2⟩;refine V.ref (n:=vs.length) (e:=e') (by simp[AP.F3]) hroom ?_ AA;have rz:(BO (Bb w) b (CJ (CJ vs (i+1) ((vs.drop i).take (len-i))) i [yv]) e').heap[b]?=some (.cells ⟨CJ (CJ vs (i+1) ((vs.drop i).take (len-i))) i [yv]⟩ e' (0,0)):=by grind[Bh,Bb]
         have:=Bv rz;rw[Bn,Bn] at this;exact this
        .have ASm:(vs.take i).length=i:=by grind
         obtain⟨Kj,rest,Ma,QO,hrun⟩:=SW (P:=E.P) (w:=w) (T:=t) (base:=some ⟨b,0,none⟩) (sLen:=i) (sCap:=cap) (n:=len+1-i) (os:=vs.take i) hc.ht hi hc.fO hs1 hz hzc
          (GD _ ASm (λj u hj=>by grind[Bu,Bb])) AA AA AA (BK (Eu _ hby) AA) AA
         have e1:i+(len+1-i)=len+1:=AA;have e2:((len+1-i:Nat):Int)=(len:Int)+1-(i:Int):=AA;rw[e1] at Ma QO hrun;rw[e2] at hrun;have hsz:b<w.heap.size:=TJ k2;have hAl:(vs.take i++List.replicate (len+1-i) z++rest).length=Kj:=AB
         have hAt:(vs.take i++List.replicate (len+1-i) z++rest).take i=vs.take i:=by
          rw[Du,Sc ASm]
         have hw1:(Cb (Bb w) (vs.take i++List.replicate (len+1-i) z++rest) e).heap[w.heap.size]?=some (.cells ⟨vs.take i++List.replicate (len+1-i) z++rest⟩ e (0,0)):=by grind[CL,Bb]
         have hyb:yb<w.heap.size:=hI.Kf _ _ hyI
         have Tk:=QL (P:=E.P) (w:=Cb (Bb w) (vs.take i++List.replicate (len+1-i) z++rest) e) (t:=t) (u:=t) (elem:=e) (T:=ti) (i:=i0) (b:=w.heap.size) (o:=i) (dl:=len+1-i) (dc:=Kj-i) (x:=.slice (some ⟨yb,yo,none⟩) 1 1) (n:=1) (us:=[yv]) (et:=e) hc.ht hi hs1
          AR (by
           rw[show Nat.min 1 (len+1-i)=1 from O6 AA];exact GD [yv] rfl (λj u hj=>by grind[Ck,BG,Bb])) AB hw1 AB
         have hpp:BO (Cb (Bb w) (vs.take i++List.replicate (len+1-i) z++rest) e) w.heap.size (CJ (vs.take i++List.replicate (len+1-i) z++rest) i [yv]) e=Cb (Bb w) (CJ (vs.take i++List.replicate (len+1-i) z++rest) i [yv]) e:=
          Gi (w:=Bb w)
         rw[show Nat.min 1 (len+1-i)=1 from O6 AA,hpp] at Tk
         have zu:(Cb (Bb w) (CJ (vs.take i++List.replicate (len+1-i) z++rest) i [yv]) e).drew.heap[w.heap.size]?=some (.cells ⟨CJ (vs.take i++List.replicate (len+1-i) z++rest) i [yv]⟩ e (0,0)):=by
          show(Cb (Bb w) (CJ (vs.take i++List.replicate (len+1-i) z++rest) i [yv]) e).heap[w.heap.size]?=_
          grind[CL,Bb]
         have Ng:=QL (P:=E.P) (w:=(Cb (Bb w) (CJ (vs.take i++List.replicate (len+1-i) z++rest) i [yv]) e).drew) (t:=t) (u:=t) (elem:=e) (T:=ti) (i:=i0) (b:=w.heap.size) (o:=i+1) (dl:=len-i) (dc:=Kj-(i+1)) (x:=.slice (some ⟨b,i,none⟩) (len-i) (cap-i)) (n:=len-i) (us:=(vs.drop i).take (len-i)) (et:=e) hc.ht hi hs1
          AR (by
           rw[show Nat.min (len-i) (len-i)=len-i from Nat.min_self _]
           exact GD _ hM1 (λj u hj=>by
            show(Cb (Bb w) (CJ (vs.take i++List.replicate (len+1-i) z++rest) i [yv]) e).cell? ⟨b,i+j,none⟩=_
            grind[BG,Bb,Bu])) AFR zu (by grind[Bn])
         rw[show Nat.min (len-i) (len-i)=len-i from Nat.min_self _] at Ng
         have oM:BO (Cb (Bb w) (CJ (vs.take i++List.replicate (len+1-i) z++rest) i [yv]) e).drew w.heap.size (CJ (CJ (vs.take i++List.replicate (len+1-i) z++rest) i [yv]) (i+1) ((vs.drop i).take (len-i))) e
           = Cb (Bb (Bb w)) (CJ (CJ (vs.take i++List.replicate (len+1-i) z++rest) i [yv]) (i+1) ((vs.drop i).take (len-i))) e:=
          Gi (w:=Bb (Bb w)) (us:=CJ (CJ (vs.take i++List.replicate (len+1-i) z++rest) i [yv]) (i+1) ((vs.drop i).take (len-i))) (vs:=CJ (vs.take i++List.replicate (len+1-i) z++rest) i [yv])
         rw[oM] at Ng;refine(hc.ACm w b len cap yb yo 1 i w.heap.size Kj AA hcap AA hlt Ma _ _ _ hrun Tk Ng).mono ?_;rintro ex w' ⟨rfl,rfl⟩;obtain⟨x1,y1⟩:=hI.drew (L:=L);obtain⟨x2,y2⟩:=y1.drew (L:=L);obtain⟨x3,y3⟩:=y2.kill (L:=L) IY b6;have Vl:=rH (vs.take i++List.replicate (len+1-i) z++rest) vs yv i len b4 AA AA hAt
         obtain⟨x4,y4⟩:=y3.TK (L:=L) (cs:=cs.take i++AV.pv c::cs.drop i) (vs:=CJ (CJ (vs.take i++List.replicate (len+1-i) z++rest) i [yv]) (i+1) ((vs.drop i).take (len-i))) e
          (by grind[Bn]) (by rw[Ff,Vl]; exact(AaX _ (x1.trans x2)).mono x3)
         refine⟨_,_,rfl,?_,((x1.trans x2).trans x3).trans x4,y4⟩;refine V.ref (n:=Kj) (e:=e) (by simp[AP.F3,Bb]) Ma ?_ AD
         grind[Bb,CL,Bv,Bn]
    grind
   .cases MO:(Nat.beq i 0&&BD (.pv c)) with
    | false=>grind
    | true=>
     rw[MO] at h;simp only[AM,BN,BU] at h;obtain⟨rfl,rfl⟩:=h;simp only[AH] at MO;obtain⟨b1,b2⟩:=MO;have:=CC b1;subst this;have hu':=hu;cases hu with
     | @AE _ base b o sz f2 Ng=>
      refine qh _ _ _ _ base 0 0 hu' rfl (AY _) ?_;unfold JD;simp[hc.ht,hi,hzz,hs1,C6,rowsOf,b2];omega
   grind
 grind
end Go.Tel
