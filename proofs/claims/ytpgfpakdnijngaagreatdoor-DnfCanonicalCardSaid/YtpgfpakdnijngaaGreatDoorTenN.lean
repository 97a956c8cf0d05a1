/-
  What calls of strconv.Itoa and strconv.Atoi answer, where the evaluator is told.
-/
import Derived.Test.YtpgfpakdnijngaaGreatDoorEvI
import Derived.Lib.ItoaNum
import Derived.Lib.Atoi
import Derived.Lib.LaidTab
import Derived.Lib.ConvBytes
import Derived.Sort.Grow
import Derived.Deep.Draws
set_option linter.all false
namespace Go.Tel
def Kc:Nat->Nat->List UInt8->List UInt8
 | 0,_,acc=>acc
 | f+1,n,acc=>bif Nat.blt n 10 then UInt8.ofNat (48+n % 10)::acc else Kc f (n / 10) (UInt8.ofNat (48+n % 10)::acc)
def G4 (n:Nat):List UInt8:=Kc 20 n []
def Kl:List UInt8->Nat->Option Nat
 | [],a=>some a
 | c::l,a=>bif Nat.ble 48 c.toNat&&Nat.ble c.toNat 57 then Kl l (a*10+(c.toNat-48)) else none
def oK (_:A3) (args:List AV) (s:AM):Option (AV×AM):=match args with
 | [.pv (.sc (.int .i64 (.ofNat n)))]=>bif Nat.blt n 1099511627776 then some (.pv (.sc (.string ⟨(G4 n).toArray⟩)),s) else none
 | _=>none
def fI (_:A3) (args:List AV) (s:AM):Option (AV×AM):=match args with
 | [.pv (.sc (.string b))]=>bif Nat.ble 1 b.data.toList.length&&Nat.ble b.data.toList.length 18 then match Kl b.data.toList 0 with
  | some n=>some (.tuple [.pv (.sc (.int .i64 (.ofNat n))),.pv (.sc .nilIface)],s)
  | none=>none
  else none
 | _=>none
theorem Wz:∀(f n:Nat) (acc:List UInt8),n<10 ^ f->0<f->Kc f n acc=Lib.decDigits n++acc
 | 0,_,_,_,h=>absurd h (by omega)
 | f+1,n,acc,h,_=>by
  rw[Kc,Lib.decDigits]
  by_cases hn:n<10
  .grind[Nat.blt,Nat.ble_eq_true_of_le]
  .have e:Nat.blt n 10=false:=by
    cases hb:Nat.blt n 10 with
    | false=>rfl
    | true=>exact absurd (Cr hb) (by omega)
   rw[e,dif_neg hn];have hf:0<f:=by grind
   have h2:n / 10<10 ^ f:=by omega
   simp only[AE];rw[Wz f (n / 10) _ h2 hf];simp
theorem pM {n:Nat} (h:n<1099511627776):Lib.itoa (n:Int)=G4 n:=by
 have h1:¬ (n:Int)<0:=by omega
 rw[Lib.itoa,if_neg h1,G4,Wz 20 n [] (by omega) (by decide)];simp
theorem W0:∀(l:List UInt8) (a:Nat),Lib.decFrom a l=Kl l a
 | [],_=>rfl
 | c::l,a=>by
  rw[Lib.decFrom,Kl,Lib.digitVal]
  by_cases h:48<=c.toNat/\c.toNat<=57
  .rw[if_pos h,XX h.1,XX h.2]
   exact W0 l _
  grind[Nat.le_of_ble_eq_true]
theorem ia {l:List UInt8} {n:Nat} (hl:1<=l.length) (h:Kl l 0=some n):Lib.atoi l=some (n:Int):=by
 cases l with
 | nil=>grind
 | cons c l=>
  have h0:=h;rw[Kl] at h;cases hb:Nat.ble 48 c.toNat&&Nat.ble c.toNat 57 with
  | false=>grind
  | true=>
   simp only[AD] at hb;have h1:=Cr hb.1
   have e1:(c==45)=false:=by
    cases hc:c==45 with
    | false=>rfl
    | true=>
     simp_all
   have e2:(c==43)=false:=by
    cases hc:c==43 with
    | false=>rfl
    | true=>
     simp_all
   grind[Lib.atoi,Lib.decNat,W0]
theorem Inv.draws {E:Env} {L:A3} {g:AI} {s:AM}:∀(k:Nat) {w:World},Inv E g w s->Ext L g w g (w.drewN k)/\Inv E g (w.drewN k) s
 | 0,w,h=>⟨Ext.refl L g w,h⟩
 | k+1,w,h=>by
  obtain⟨e1,i1⟩:=Inv.draws (L:=L) k h;obtain⟨e2,i2⟩:=i1.drew (L:=L);exact⟨e1.trans e2,i2⟩
theorem Inv.ARb {E:Env} {L:A3} {s:AM}:∀(os:List Obj) {g:AI} {w:World},Inv E g w s->∃g',Ext L g w g' (Sort.grow w ⟨os⟩)/\Inv E g' (Sort.grow w ⟨os⟩) s
 | [],g,w,h=>⟨g,by grind[Sort.grow_empty,Ext.refl]⟩
 | o::os,g,w,h=>by
  obtain⟨e1,i1⟩:=h.jZ (L:=L) o;obtain⟨g',e2,i2⟩:=Inv.ARb (L:=L) os i1
  have e:Sort.grow w ⟨o::os⟩=Sort.grow (Lh w o) ⟨os⟩:=by
   refine I0 ?_ rfl rfl rfl rfl;apply MU
   show(w.heap++(⟨o::os⟩:Array Obj)).toList=((w.heap.push o)++(⟨os⟩:Array Obj)).toList
   simp
  rw[e];exact⟨g',e1.trans e2,i2⟩
def Oc (k:IntKind) (zs:List Int):List PV:=zs.map λz=>.sc (.int k z)
theorem AK8 {E:Env} {g:AI} {w:World} {s:AM} (h:Inv E g w s) {gl:Nat} {name:String} {k:IntKind} {zs:List Int} (hz:zs≠[]) (hG:E.G gl=some (Oc k zs)) (hn:E.P.globalNamed name=some gl):Lib.TabIs E.P w name k zs:=by
 have hc:∀j (z:Int),zs[j]?=some z->w.cell? ⟨gl,j,none⟩=some (.int k z):=by
  intro j z hj;obtain⟨v,_,h2,h3⟩:=h.E9 gl _ hG j (.sc (.int k z)) (by simp[Oc,hj]);cases h3;omega
 obtain⟨_,hN⟩:=h.DK gl _ hG;have hl:(Oc k zs).length=zs.length:=by simp[Oc]
 rw[hl] at hN;unfold Lib.TabIs World.var?;rw[hn];simp only[XN]
 obtain⟨z0,hz0⟩:∃z,zs[0]?=some z:=by
  cases zs with
  | nil=>grind
  | cons z _=>simp
 have h0:=hc 0 z0 hz0;unfold World.cell? at h0 hN;cases hh:w.heap[gl]? with
 | none=>grind
 | some o=>
  cases o with
  | cells cs e fz=>
   simp only;congr 1;apply Re
   grind[World.cell?]
  | _=>grind
theorem tT {P:Program} {W:World} {laid:List (String×DataW Unit)} {n:String} {k:IntKind} {zs:List Int} {g m:Nat} {t e:TypeId} (h:laidMet P laid W) (hm:(n,Lib.tabData k zs)∈laid)
  (hg:P.globalNamed n=some g) (hty:(P.globals[g]?).map (·.type)=some t) (ht:P.underlying t=some (.array m e)) (he:P.underlying e=some (.int k)) (hce:P.cellsOf e=1) (hct:P.cellsOf t=m) (hz:zs≠[]) :
  (∀j c,(Oc k zs)[j]?=some c->∃v,g<W.heap.size/\W.cell? ⟨g,j,none⟩=some v/\VP (λb _=>b<W.heap.size) W c v)/\g<W.heap.size/\W.cell? ⟨g,(Oc k zs).length,none⟩=none:=by
 obtain⟨ps,hv,_⟩:=h;obtain⟨g',t',cs,fuel,p,h1,h2,h3,h4⟩:=Nh hv n _ hm;obtain rfl:=FI (hg.symm.trans h1);obtain rfl:=FI (hty.symm.trans h2);have hcs:=Lib.cells_of_tab ht he hce hct h4;have hc:∀j,W.cell? ⟨g,j,none⟩=(zs.map λz=>Value.int k z)[j]?:=λj=>by grind[World.var?_cell]
 have hl:(Oc k zs).length=zs.length:=by simp[Oc]
 obtain⟨z0,hz0⟩:∃z,zs[0]?=some z:=by
  cases zs with
  | nil=>grind
  | cons z _=>simp
 refine⟨λj c hj=>?_,HY (a:=⟨g,0,none⟩) (v:=.int k z0) (by grind),by grind⟩;rw[Oc,FJ] at hj;cases hzj:zs[j]? with
 | none=>grind
 | some z=>
  rw[hzj] at hj;cases hj;have h5:W.cell? ⟨g,j,none⟩=some (.int k z):=by grind
  exact⟨_,HY h5,h5,.sc _⟩
structure ANB (P:Program) (f:FuncId) (name:String):Prop where
 body:K7 P f
 call:∀(n:Int),-9223372036854775808<=n->n<=9223372036854775807->∀w:World,Lib.TabIs P w name .u64 Lib.pow10Tab ->
  Calls P f #[.int .i64 n] w λe w'=>e=.returned (.string ⟨(Lib.itoa n).toArray⟩)/\∃k os,w'=Sort.grow (w.drewN k) os
theorem ABk {E:Env} {f:FuncId} {name:String} {gl:Nat} (hc:ANB E.P f name) (hG:E.G gl=some (Oc .u64 Lib.pow10Tab)) (hn:E.P.globalNamed name=some gl):Pr E f oK:=by
 intro L args s s' v g w vs h hI hargs;refine⟨hc.body,?_⟩;unfold oK at h;split at h
 .rename_i n
  obtain⟨u,us,rfl,hu,N4⟩:=hargs.cases;have:=N4.E4;subst this;have:=hu.Cx;subst this;cases hb:Nat.blt n 1099511627776 with
  | false=>grind
  | true=>
   rw[hb] at h;simp only[AH,Aw,A4] at h;obtain⟨rfl,rfl⟩:=h;have hlt:n<1099511627776:=Cr hb;have hne:Lib.pow10Tab≠[]:=by grind[Lib.pow10Tab_length]
   refine(hc.call (Int.ofNat n) (by simp) (by grind) w (AK8 hI hne hG hn)).mono ?_;rintro e w' ⟨rfl,k,os,rfl⟩;obtain⟨e1,i1⟩:=hI.draws (L:=L) k;obtain⟨g',e2,i2⟩:=Inv.ARb (L:=L) os.toList i1;refine⟨_,g',rfl,?_,e1.trans e2,i2⟩;have:Lib.itoa (Int.ofNat n)=G4 n:=pM hlt;rw[this];exact .pv (.sc _)
 grind
theorem US (w:World) (e:TypeId) (t:ByteArray):∃o,Lib.bytesWorld w e t=Lh (BK w) o:=by
 have hsz:(Lib.bytesWorld w e t).heap.size=w.heap.size+1:=by grind[Lib.bytesWorld,World.freeze,World.alloc,World.drew_eq]
 obtain⟨o,ho⟩:∃o,(Lib.bytesWorld w e t).heap[w.heap.size]?=some o:=⟨_,Array.getElem?_eq_getElem (by omega)⟩;refine⟨o,I0 ?_ ?_ ?_ ?_ ?_⟩
 all_goals grind[BK,Lib.bytesWorld,World.freeze,World.alloc,Lh,World.drew_eq]
structure ANC (P:Program) (f:FuncId) (u8:TypeId):Prop where
 body:K7 P f
 call:∀(s:ByteArray) (n:Int),s.size<=18->Lib.atoi s.data.toList=some n->∀w:World,
  Calls P f #[.string s] w λe w'=>e=.returned (.tuple #[.int .i64 n,.nilIface])/\∃t,w'=Lib.bytesWorld w u8 t
theorem ABl {E:Env} {f:FuncId} {u8:TypeId} (hc:ANC E.P f u8):Pr E f fI:=by
 intro L args s s' v g w vs h hI hargs;refine⟨hc.body,?_⟩;unfold fI at h;split at h
 .rename_i b
  obtain⟨u,us,rfl,hu,N4⟩:=hargs.cases;have:=N4.E4;subst this;have:=hu.Cx;subst this;cases hb:Nat.ble 1 b.data.toList.length&&Nat.ble b.data.toList.length 18 with
  | false=>rw[hb] at h; cases h
  | true=>
   rw[hb] at h;simp only[AH] at h;simp only[AD] at hb;have h1:=Cr hb.1;have h2:=Cr hb.2;cases hu:Kl b.data.toList 0 with
   | none=>rw[hu] at h; cases h
   | some n=>
    rw[hu] at h;simp only[Aw,A4] at h;obtain⟨rfl,rfl⟩:=h;refine(hc.call b n (by show b.data.size<=18; simpa using h2) (ia h1 hu) w).mono ?_;rintro e w' ⟨rfl,t,rfl⟩;obtain⟨o,ho⟩:=US w u8 t;rw[ho];obtain⟨e1,i1⟩:=hI.drew (L:=L);obtain⟨e2,i2⟩:=i1.jZ (L:=L) o;refine⟨_,_,rfl,?_,e1.trans e2,i2⟩
    exact .tuple rfl λi c v h1 h2=>by
     match i with
     | 0=>
      cases h1;cases h2;exact .pv (.sc _)
     | 1=>
      cases h1;cases h2;exact .pv (.sc _)
     | i+2=>grind
 grind
end Go.Tel
