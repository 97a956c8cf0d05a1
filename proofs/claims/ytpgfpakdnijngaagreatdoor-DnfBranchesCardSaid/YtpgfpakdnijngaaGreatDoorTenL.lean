/-
  A told call: slices.Insert of one element of one cell.
-/
import Derived.Test.YtpgfpakdnijngaaGreatDoorTenJ
import Derived.Laws.Externs
import GoSem.Extern.SlicesOverlaps
set_option linter.all false
namespace Go.Tel
open Option renaming some->Y,none->G
open Bool renaming true->Z,false->ϴ
open Go renaming World->ϙ,Value->ϛ,TypeId->ϝ,Program->ϟ
def bR (L:Ba) (args:Ϭ) (s:AY):Option (AV×AY):=match args with
 | [x,.pv (.sc (.int .i64 (.ofNat i))),.AE [[c]]]=>match x with
  | .ref id 0 len 1=>match s.bs[id]? with
   | some b=>
    bif BS (.pv c)&&(Nat.beq len b.length&&(Nat.ble 1 len&&(Nat.ble i len&&(Nat.ble len 1000000000&&(Nat.ble L.ro id&&b.all BS))))) then
     Y (.ref s.bs.length 0 (len+1) 1,{ s with bs:=s.bs.set id []++[b.take i++.pv c::b.drop i] })
    else G
   | none=>G
  | .AE []=>bif Nat.beq i 0&&BS (.pv c) then Y (.ref s.bs.length 0 1 1,{ s with bs:=s.bs++[[.pv c]] }) else G
  | _=>G
 | _=>G
def ZK {P:ϟ} {w:ϙ} {j results:Array ϝ} {t e:ϝ} {i:TypeInfo} {d f b o n m r s:Nat} {y:ϛ} {vs:List ϛ} {et:ϝ} (E:j[0]?=Y t) (H:P.underlying t=Y (.slice e)) (I:P.info? e=Y i) (K:i.size=1)
  (l:w.cell? ⟨d,f,G⟩=Y y) (hb:w.heap[b]?=Y (.cells ⟨vs⟩ et (0,0))) (L:vs≠[]) (A:d≠b) :
  (Extern.SlicesOverlaps.overlaps j results #[.slice (Y ⟨d,f,G⟩) n r,.slice (Y ⟨b,o,G⟩) m s]).run P w=.ok (.bool ϴ) w:=by
 have p:∃k u,w.shape? d=Y (k,u+1):=by
  unfold World.cell? at l;unfold World.shape?;split at l
  .rename_i x k M h
   rw[h];simp only at l;have:f<x.size:=AB;exact⟨k,x.size-1,AB⟩
  grind
 obtain⟨k,u,p⟩:=p;have B:w.shape? b=Y (et,vs.length):=CM hb;have C:∀o,w.frozen? ⟨b,o,G⟩=false:=λo=>by grind[World.frozen?]
 have D:vs.length≠0:=AB
 have N:Extern.SlicesOverlaps.overlaps j results #[.slice (Y ⟨d,f,G⟩) n r,.slice (Y ⟨b,o,G⟩) m s]=(do
   let Y t:=j[0]? | stuck _
   let .slice z <-underlying t|stuck _
   let size <-sizeOf z
   if n=0\/m=0\/size=0 then pure (.bool ϴ)
   else if d != b&&(<-frozen ⟨d,f,G⟩)&&(<-frozen ⟨b,o,G⟩) then unsupported .addressObserved
   else do
    if d != b then do
     noView ⟨d,f,G⟩; noView ⟨b,o,G⟩
     if <-mayBeOne ⟨d,f,G⟩ ⟨b,o,G⟩ then return .bool ((<-choose _)==1)
    pure (.bool (d==b&&f<o+m*size&&o<f+n*size))):=rfl
 simp[*,run_underlying,run_sizeOf,noView,viewAt,mayBeOne,stringish]
structure ALt (P:ϟ) (f fo:FuncId) (t e ti:ϝ):Prop where
 body:MC P f
 ht:P.underlying t=Y (.slice e)
 hti:P.underlying ti=Y (.int .i64)
 info:∃i z,P.info? e=Y i/\i.size=1/\i.bytes<=16/\i.zero=Y z/\z.cells=#[z]/\z.oneCell'=Z
 zero:∃z,zeroOf P e=Y [z]
 ALu:∀(w w1:ϙ) (s:Option Addr) (len cap yb yo H6:Nat) (v1:ϛ),len<=cap ->
  (Builtin.append_ #[t,t] t #[.slice s len cap,.slice (Y ⟨yb,yo,G⟩) 1 H6]).run P w=.ok v1 w1 ->
  Calls P f #[.slice s len cap,.int .i64 len,.slice (Y ⟨yb,yo,G⟩) 1 H6] w λe' w'=>e'=.returned v1/\w'=w1
 ov:∀(w:ϙ) (yb yo H6 b o m c2:Nat) (y:ϛ) (vs:List ϛ) (et:ϝ),w.cell? ⟨yb,yo,G⟩=Y y->w.heap[b]?=Y (.cells ⟨vs⟩ et (0,0))->vs≠[]->yb≠b ->
  (callFunc fo #[.slice (Y ⟨yb,yo,G⟩) 1 H6,.slice (Y ⟨b,o,G⟩) m c2]).run P w=.ok (.value (.bool ϴ)) w
 ABT:∀(w:ϙ) (b len cap yb yo H6 i:Nat),len<=1000000000000000000->len+1<=cap->i<len->∀(w1 w2:ϙ),
  (callFunc fo #[.slice (Y ⟨yb,yo,G⟩) 1 H6,.slice (Y ⟨b,i+1,G⟩) (len-i) (cap-(i+1))]).run P w=.ok (.value (.bool ϴ)) w ->
  (Builtin.copy_ #[t,t] ti #[.slice (Y ⟨b,i+1,G⟩) (len-i) (cap-(i+1)),.slice (Y ⟨b,i,G⟩) (len+1-i) (cap-i)]).run P w.drew=.ok (goInt (len-i:Nat)) w1 ->
  (Builtin.copy_ #[t,t] ti #[.slice (Y ⟨b,i,G⟩) (len+1-i) (cap-i),.slice (Y ⟨yb,yo,G⟩) 1 H6]).run P w1=.ok (goInt (1:Nat)) w2 ->
  Calls P f #[.slice (Y ⟨b,0,G⟩) len cap,.int .i64 i,.slice (Y ⟨yb,yo,G⟩) 1 H6] w λe' w'=>e'=.returned (.slice (Y ⟨b,0,G⟩) (len+1) cap)/\w'=w2
 ABU:∀(w:ϙ) (b len cap yb yo H6 i sz Ov:Nat),len<=1000000000000000000->len<=cap->cap<len+1->i<len->len+1<=Ov->∀(w1 w2 w3:ϙ),
  (Builtin.append_ #[t,ti] t #[.slice (Y ⟨b,0,G⟩) i cap,.int .i64 ((len:Int)+1-(i:Int))]).run P w=.ok (.slice (Y ⟨sz,0,G⟩) (len+1) Ov) w1 ->
  (Builtin.copy_ #[t,t] ti #[.slice (Y ⟨sz,i,G⟩) (len+1-i) (Ov-i),.slice (Y ⟨yb,yo,G⟩) 1 H6]).run P w1=.ok (goInt (1:Nat)) w2 ->
  (Builtin.copy_ #[t,t] ti #[.slice (Y ⟨sz,i+1,G⟩) (len-i) (Ov-(i+1)),.slice (Y ⟨b,i,G⟩) (len-i) (cap-i)]).run P w2.drew=.ok (goInt (len-i:Nat)) w3 ->
  Calls P f #[.slice (Y ⟨b,0,G⟩) len cap,.int .i64 i,.slice (Y ⟨yb,yo,G⟩) 1 H6] w λe' w'=>e'=.returned (.slice (Y ⟨sz,0,G⟩) (len+1) Ov)/\w'=w3
theorem Ga {P:ϟ} {w:ϙ} {b o n m cap:Nat} (us:List ϛ) (d:us.length=n) (h:∀(j:Nat) u,us[j]?=Y u->w.cell? ⟨b,o+j,G⟩=Y u) :
  (Builtin.firstCells 1 n (.slice (Y ⟨b,o,G⟩) m cap)).run P w=.ok us.toArray w:=by grind[E2,Builtin.firstCells]
def yG (vs:List ϛ) (c:ϛ) (i len:Nat) (e:i<=len) (f:len+1<=vs.length) :
  (Ca (Ca vs (i+1) ((vs.drop i).take (len-i))) i [c]).take (len+1)=(vs.take len).take i++c::(vs.take len).drop i:=by
 have j:((vs.drop i).take (len-i)).length=len-i:=AB;have hA:((vs.take len).take i).length=i:=AB;have k:(Ca vs (i+1) ((vs.drop i).take (len-i))).length=vs.length:=B8 _ _ _;apply Fw;intro q;rw[PO]
 by_cases b:q<len+1
 .rw[if_pos b]
  rcases Nat.lt_trichotomy q i with h|h|h
  .grind[Fk]
  .grind[Ca]
  .obtain⟨r,rfl⟩:∃r,q=i+1+r:=⟨q-i-1,AA⟩
   have d:r<((vs.drop i).take (len-i)).length:=AA;rw[Fk _ _ _ _ (.inr AD),HP _ vs (i+1) r _ (Az d) AA,Ei AA,hA]
   grind
 grind
def qD (A vs:List ϛ) (c:ϛ) (i len:Nat) (f:i<=len) (j:len<=vs.length) (hA:len+1<=A.length) (k:A.take i=vs.take i) :
  (Ca (Ca A i [c]) (i+1) ((vs.drop i).take (len-i))).take (len+1)=(vs.take len).take i++c::(vs.take len).drop i:=by
 have l:((vs.drop i).take (len-i)).length=len-i:=AB;have b:((vs.take len).take i).length=i:=AB;have m:(Ca A i [c]).length=A.length:=B8 _ _ _;apply Fw;intro q;rw[PO]
 by_cases d:q<len+1
 .rw[if_pos d]
  rcases Nat.lt_trichotomy q i with h|h|h
  .grind[Fk]
  .grind[Ca,Fk]
  .obtain⟨r,rfl⟩:∃r,q=i+1+r:=⟨q-i-1,AA⟩
   have e:r<((vs.drop i).take (len-i)).length:=AA;rw[HP _ _ (i+1) r _ (Az e) AA,Ei AA,b]
   grind
 grind
def zS {E:Env} {f fo:FuncId} {t e α:ϝ} (y:ALt E.P f fo t e α):Q1 E f bR:=by
 intro L args s s' v g w d h M Γ;refine⟨y.body,?_⟩;have⟨β,z,N,I,Ψ,hz,hzc,hzo⟩:=y.info;have⟨zz,Ω⟩:=y.zero;unfold bR at h;split at h
 .rename_i x i c
  obtain⟨u,us,rfl,η,hn⟩:=Γ.cases;obtain⟨u1,us1,rfl,hu1,hn1⟩:=hn.cases;obtain⟨u2,us2,rfl,a0,hn2⟩:=hn1.cases;have:=hn2.Fb; subst this;have:=hu1.DX; subst this;have a1:=a0;cases a0 with
  | @AE _ Λ C D ysz ff θ=>
   have b9:ysz=1:=by simpa using(θ.hsz [c] AD).symm
   subst b9;have:=θ.hbase AD AA;subst this;have⟨ξ,ο⟩:=θ.hc 0 [c] 0 c rfl rfl;have π:=θ.hv 0 [c] 0 c rfl rfl;simp only[Sm,G8] at ξ ο;simp only[CP,CQ,CY] at a1 Γ ⊢;generalize hy0:ff 0 0=k at ο π
   have Ξ:∀(x u:_) (r:AV) (τ:AY) (υ:Option Addr) (len p:Nat),V g w x u->u=.slice υ len p->len<=p->JV E.P ⟨L.n0,L.ro,L.rt,λ_=>Z,L.rr,L.pl⟩ s t x (.AE [[c]])=Y (r,τ) ->
     Calls E.P f #[u,.int .i64 len,.slice (Y ⟨C,D,G⟩) 1 1] w λe O=>∃γ δ,e=.returned γ/\V δ O r γ/\Ext L g w δ O/\Inv E δ O τ:=by
    intro x u r τ υ len p hx φ hlc χ;have⟨γ,O,δ,k1,k2,k3,k4⟩:=OU (T:=t) (u:=t) (ts:=[]) M hx a1 y.ht AD χ;subst φ;refine(y.ALu w O υ len p C D 1 γ hlc k1).mono ?_;rintro e w'' ⟨rfl,rfl⟩;exact⟨γ,δ,rfl,k2,k3.Ar rfl rfl,k4⟩
   split at h
   .rename_i id len
    split at h
    .rename_i A ρ
     cases H:(BS (.pv c)&&(Nat.beq len A.length&&(Nat.ble 1 len&&(Nat.ble i len&&(Nat.ble len 1000000000&&(Nat.ble L.ro id&&A.all BS)))))) with
     | false=>grind
     | true=>
      rw[H] at h;simp only[AQ,BU,Bg] at h;obtain⟨rfl,rfl⟩:=h;simp only[AK] at H;obtain⟨ι,Q,a7,κ,a8,ε,b7⟩:=H;have Q:=CV Q;have a7:=Fz a7;have κ:=Fz κ;have a8:=Fz a8;have ε:=Fz ε;have AZX:k.oneCell'=true:=J3 (.pv π) ι;cases η with
      | Jb hd=>
       have:=M.D3 id hd
       grind
      | @ref _ _ _ _ b p n te U μ ς hnn=>
       have⟨cs',d,B,k1,k2,kle,k3⟩:=M.blk id b U;rw[ρ] at k1; simp only[BU] at k1; subst k1;rw[CM k2] at ς;simp only[BU,Bg] at ς;obtain⟨φ,hnv⟩:=ς;subst φ hnv;have hcv:p<=d.length:=AA;have a2:C≠b:=λq=>M.GL id b D U (q ▸ ξ)
       have hvs:d≠[]:=λq=>by grind
       have hone:∀u∈d.take len,u.oneCell'=true:=by rw[Q]; exact k3.one b7
       have hM1:((d.drop i).take (len-i)).length=len-i:=AB
       have Δ:∀u∈(d.drop i).take (len-i),u.oneCell'=true:=λu η=>hone u (by
        have:(d.drop i).take (len-i)=(d.take len).drop i:=by rw[List.drop_take]
        grind)
       have af:(A.take i++AV.pv c::A.drop i).length=len+1:=AB;have a3:VL g w A (d.take len):=AB
       have AX2:∀(ψ:ϙ) (S:Ext L g w g ψ),VL g ψ (A.take i++AV.pv c::A.drop i) ((d.take len).take i++k::(d.take len).drop i):=λψ S=>
        ((a3.mono S).take i).append (.cons ((V.pv π).mono S) ((a3.mono S).drop i))
       by_cases hil:i=len
       .subst hil
        have χ:JV E.P ⟨L.n0,L.ro,L.rt,λ_=>Z,L.rr,L.pl⟩ s t (.ref id 0 i 1) (.AE [[c]])=Y (.ref s.bs.length 0 (i+1) 1,{ s with bs:=s.bs.set id []++[A.take i++AV.pv c::A.drop i] }):=by
         have hal:alive s id=true:=by
          unfold alive;rw[ρ];cases A with
          | nil=>grind
          | cons a l=>rfl
         unfold JV;have hby2:(i+1)*β.bytes<=2 ^ 45:=BC (E9 _ Ψ) AA;simp[y.ht,N,Ω,I,DS,rowsOf,ι,ρ,hal,Q,ε]
         grind
        exact Ξ _ _ _ _ _ i p (.ref U μ (CM k2) AA) rfl μ χ
       .have a4:i<len:=by omega
        by_cases Θ:len+1<=p
        .have a5:w.drew.heap[b]?=Y (.cells ⟨d⟩ B (0,0)):=k2
         have X:=Qh (P:=E.P) (w:=w.drew) (t:=t) (u:=t) (elem:=e) (T:=α) (i:=β) (b:=b) (o:=i+1) (dl:=len-i) (dc:=p-(i+1)) (x:=.slice (Y ⟨b,i,G⟩) (len+1-i) (p-i)) (n:=len+1-i) (us:=(d.drop i).take (len-i)) (vs:=d) (et:=B) y.ht N I
          AX (by grind[Ga,CI]) Δ a5 AA
         rw[show Nat.min (len+1-i) (len-i)=len-i from Nat.min_eq_right AA] at X;have k2e:(Bd w.drew b (Ca d (i+1) ((d.drop i).take (len-i))) B).heap[b]?=Y (.cells ⟨Ca d (i+1) ((d.drop i).take (len-i))⟩ B (0,0)):=by grind[Bv]
         have K:=Qh (P:=E.P) (w:=Bd w.drew b (Ca d (i+1) ((d.drop i).take (len-i))) B) (t:=t) (u:=t) (elem:=e) (T:=α) (i:=β) (b:=b) (o:=i) (dl:=len+1-i) (dc:=p-i) (x:=.slice (Y ⟨C,D,G⟩) 1 1) (n:=1) (us:=[k]) (vs:=Ca d (i+1) ((d.drop i).take (len-i))) (et:=B) y.ht N I
          AX (by
           rw[show Nat.min 1 (len+1-i)=1 from S2 AA]
           exact Ga [k] rfl (λj u ζ=>by
            cases j with
            | zero=>
             simp at ζ; subst ζ;rw[G8,Cg (w:=w) (by rw[Bv,if_neg (Fx a2)]; rfl)];omega
            | succ j=>grind)) AB k2e (by grind[B8])
         rw[show Nat.min 1 (len+1-i)=1 from S2 AA,Er] at K;refine(y.ABT w b len p C D 1 i AA Θ a4 _ _ (y.ov w C D 1 b (i+1) (len-i) (p-(i+1)) k d B ο k2 hvs a2) X K).mono ?_;rintro ex O ⟨rfl,rfl⟩;have⟨ω,i1⟩:=M.drew (L:=L);have a6:=yG d k i len κ AA
         have⟨r1,r2⟩:=i1.rN (L:=L) (cs':=A.take i++AV.pv c::A.drop i) (vs':=Ca (Ca d (i+1) ((d.drop i).take (len-i))) i [k]) U a5 (by grind[B8]) ε
          (by grind[B8]) AB
         refine⟨_,_,rfl,?_,ω.trans r1,r2⟩;refine V.ref (n:=d.length) (e:=B) (by simp[AZ.GO]) Θ ?_ AA;have qm:(Bd (Bt w) b (Ca (Ca d (i+1) ((d.drop i).take (len-i))) i [k]) B).heap[b]?=Y (.cells ⟨Ca (Ca d (i+1) ((d.drop i).take (len-i))) i [k]⟩ B (0,0)):=by grind[Bv,Bt]
         have:=CM qm;rw[B8,B8] at this;exact this
        .have Φ:(d.take i).length=i:=by grind
         have⟨W,m,σ,hc2,ν⟩:=Sd (P:=E.P) (w:=w) (T:=t) (base:=Y ⟨b,0,G⟩) (sLen:=i) (sCap:=p) (n:=len+1-i) (os:=d.take i) y.ht N y.hti I hz hzc
          (Ga _ Φ (λj u ζ=>by grind[CI,Bt])) AA AA AA (BC (E9 _ Ψ) AA) AA
         have ω:i+(len+1-i)=len+1:=AA;have S:((len+1-i:Nat):Int)=(len:Int)+1-(i:Int):=AA;rw[ω] at σ hc2 ν;rw[S] at ν;have hsz:b<w.heap.size:=II k2;have hAl:(d.take i++List.replicate (len+1-i) z++m).length=W:=AB
         have hAt:(d.take i++List.replicate (len+1-i) z++m).take i=d.take i:=by
          rw[EG,So Φ]
         have hw1:(Cy (Bt w) (d.take i++List.replicate (len+1-i) z++m) e).heap[w.heap.size]?=Y (.cells ⟨d.take i++List.replicate (len+1-i) z++m⟩ e (0,0)):=by grind[Cb,Bt]
         have hyb:C<w.heap.size:=M.KZ _ _ ξ
         have X:=Qh (P:=E.P) (w:=Cy (Bt w) (d.take i++List.replicate (len+1-i) z++m) e) (t:=t) (u:=t) (elem:=e) (T:=α) (i:=β) (b:=w.heap.size) (o:=i) (dl:=len+1-i) (dc:=W-i) (x:=.slice (Y ⟨C,D,G⟩) 1 1) (n:=1) (us:=[k]) (et:=e) y.ht N I
          AX (by
           rw[show Nat.min 1 (len+1-i)=1 from S2 AA];exact Ga [k] rfl (λj u ζ=>by grind[Cg,BW,Bt])) AB hw1 AB
         have hpp:Bd (Cy (Bt w) (d.take i++List.replicate (len+1-i) z++m) e) w.heap.size (Ca (d.take i++List.replicate (len+1-i) z++m) i [k]) e=Cy (Bt w) (Ca (d.take i++List.replicate (len+1-i) z++m) i [k]) e:=
          Gz (w:=Bt w)
         rw[show Nat.min 1 (len+1-i)=1 from S2 AA,hpp] at X
         have hw2:(Cy (Bt w) (Ca (d.take i++List.replicate (len+1-i) z++m) i [k]) e).drew.heap[w.heap.size]?=Y (.cells ⟨Ca (d.take i++List.replicate (len+1-i) z++m) i [k]⟩ e (0,0)):=by
          show(Cy (Bt w) (Ca (d.take i++List.replicate (len+1-i) z++m) i [k]) e).heap[w.heap.size]?=_
          grind[Cb,Bt]
         have K:=Qh (P:=E.P) (w:=(Cy (Bt w) (Ca (d.take i++List.replicate (len+1-i) z++m) i [k]) e).drew) (t:=t) (u:=t) (elem:=e) (T:=α) (i:=β) (b:=w.heap.size) (o:=i+1) (dl:=len-i) (dc:=W-(i+1)) (x:=.slice (Y ⟨b,i,G⟩) (len-i) (p-i)) (n:=len-i) (us:=(d.drop i).take (len-i)) (et:=e) y.ht N I
          AX (by
           rw[show Nat.min (len-i) (len-i)=len-i from Nat.min_self _]
           exact Ga _ hM1 (λj u ζ=>by
            show(Cy (Bt w) (Ca (d.take i++List.replicate (len+1-i) z++m) i [k]) e).cell? ⟨b,i+j,G⟩=_
            grind[BW,Bt,CI])) Δ hw2 (by grind[B8])
         rw[show Nat.min (len-i) (len-i)=len-i from Nat.min_self _] at K
         have AX3:Bd (Cy (Bt w) (Ca (d.take i++List.replicate (len+1-i) z++m) i [k]) e).drew w.heap.size (Ca (Ca (d.take i++List.replicate (len+1-i) z++m) i [k]) (i+1) ((d.drop i).take (len-i))) e
           = Cy (Bt (Bt w)) (Ca (Ca (d.take i++List.replicate (len+1-i) z++m) i [k]) (i+1) ((d.drop i).take (len-i))) e:=
          Gz (w:=Bt (Bt w)) (us:=Ca (Ca (d.take i++List.replicate (len+1-i) z++m) i [k]) (i+1) ((d.drop i).take (len-i))) (vs:=Ca (d.take i++List.replicate (len+1-i) z++m) i [k])
         rw[AX3] at K;refine(y.ABU w b len p C D 1 i w.heap.size W AA μ AA a4 σ _ _ _ ν X K).mono ?_;rintro ex O ⟨rfl,rfl⟩;have⟨a9,y1⟩:=M.drew (L:=L);have⟨b0,y2⟩:=y1.drew (L:=L);have⟨b8,y3⟩:=y2.kill (L:=L) U ε;have a6:=qD (d.take i++List.replicate (len+1-i) z++m) d k i len κ AA AA hAt
         have⟨x4,y4⟩:=y3.TV (L:=L) (cs:=A.take i++AV.pv c::A.drop i) (vs:=Ca (Ca (d.take i++List.replicate (len+1-i) z++m) i [k]) (i+1) ((d.drop i).take (len-i))) e
          (by grind[B8]) (by rw[af,a6]; exact(AX2 _ (a9.trans b0)).mono b8)
         refine⟨_,_,rfl,?_,((a9.trans b0).trans b8).trans x4,y4⟩;refine V.ref (n:=W) (e:=e) (by simp[AZ.GO,Bt]) σ ?_ AD
         grind[Bt,Cb,CM,B8]
    grind
   .cases H:(Nat.beq i 0&&BS (.pv c)) with
    | false=>grind
    | true=>
     rw[H] at h;simp only[AQ,BU,Bg] at h;obtain⟨rfl,rfl⟩:=h;simp only[AK] at H;obtain⟨ι,Q⟩:=H;have:=CV ι;subst this;have hu':=η;cases η with
     | @AE _ Λ b o sz f2 K=>
      refine Ξ _ _ _ _ Λ 0 0 hu' rfl (AU _) ?_;unfold JV;simp[y.ht,N,Ω,I,DS,rowsOf,Q];omega
   grind
 grind
end Go.Tel
