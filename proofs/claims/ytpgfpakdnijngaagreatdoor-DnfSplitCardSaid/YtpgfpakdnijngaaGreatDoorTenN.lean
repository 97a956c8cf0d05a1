/-
  What calls of strconv.Itoa and strconv.Atoi answer, where the evaluator is told.
-/
import Derived.Test.YtpgfpakdnijngaaGreatDoorEvI
import Derived.Lib.ItoaNum
import Derived.Lib.Atoi
import Derived.Lib.LaidTab
import Derived.Lib.ConvBytes
import Derived.Sort.Grow
import Derived.Deep.Draws
set_option linter.all false
namespace Go.Tel
def LH:Nat->Nat->List UInt8->List UInt8
 | 0,_,acc=>acc
 | f+1,n,acc=>bif Nat.blt n 10 then UInt8.ofNat (48+n % 10)::acc else LH f (n / 10) (UInt8.ofNat (48+n % 10)::acc)
def HK (n:Nat):List UInt8:=LH 20 n []
def LJ:List UInt8->Nat->Option Nat
 | [],a=>some a
 | c::l,a=>bif Nat.ble 48 c.toNat&&Nat.ble c.toNat 57 then LJ l (a*10+(c.toNat-48)) else none
def oQ (_:BL) (args:List AV) (s:AQ):Option (AV×AQ):=match args with
 | [.pv (.sc (.int .i64 (.ofNat n)))]=>bif Nat.blt n 1099511627776 then some (.pv (.sc (.string ⟨(HK n).toArray⟩)),s) else none
 | _=>none
def gU (_:BL) (args:List AV) (s:AQ):Option (AV×AQ):=match args with
 | [.pv (.sc (.string b))]=>bif Nat.ble 1 b.data.toList.length&&Nat.ble b.data.toList.length 18 then match LJ b.data.toList 0 with
  | some n=>some (.tuple [.pv (.sc (.int .i64 (.ofNat n))),.pv (.sc .nilIface)],s)
  | none=>none
  else none
 | _=>none
theorem X7:∀(f n:Nat) (acc:List UInt8),n<10 ^ f->0<f->LH f n acc=Lib.decDigits n++acc
 | 0,_,_,_,h=>absurd h AA
 | f+1,n,acc,h,_=>by
  rw[LH,Lib.decDigits]
  by_cases hn:n<10
  .grind[Nat.blt,Nat.ble_eq_true_of_le]
  .have e:Nat.blt n 10=false:=by
    cases hb:Nat.blt n 10 with
    | false=>rfl
    | true=>exact absurd (Gv hb) AA
   rw[e,dif_neg hn];have hf:0<f:=AB;have h2:n / 10<10 ^ f:=AA;simp only[AK];rw[X7 f (n / 10) _ h2 hf];simp
theorem rI {n:Nat} (h:n<1099511627776):Lib.itoa (n:Int)=HK n:=by
 have h1:¬ (n:Int)<0:=AA;rw[Lib.itoa,if_neg h1,HK,X7 20 n [] AA AI];simp
theorem X8:∀(l:List UInt8) (a:Nat),Lib.decFrom a l=LJ l a
 | [],_=>rfl
 | c::l,a=>by
  rw[Lib.decFrom,LJ,Lib.digitVal]
  by_cases h:48<=c.toNat/\c.toNat<=57
  .rw[if_pos h,kG h.1,kG h.2]
   exact X8 l _
  grind[Nat.le_of_ble_eq_true]
theorem jm {l:List UInt8} {n:Nat} (hl:1<=l.length) (h:LJ l 0=some n):Lib.atoi l=some (n:Int):=by
 cases l with
 | nil=>grind
 | cons c l=>
  have h0:=h;rw[LJ] at h;cases hb:Nat.ble 48 c.toNat&&Nat.ble c.toNat 57 with
  | false=>grind
  | true=>
   simp only[AH] at hb;have h1:=Gv hb.1
   have e1:(c==45)=false:=by
    cases hc:c==45 with
    | false=>rfl
    | true=>
     simp_all
   have e2:(c==43)=false:=by
    cases hc:c==43 with
    | false=>rfl
    | true=>
     simp_all
   grind[Lib.atoi,Lib.decNat,X8]
theorem Inv.draws {E:Env} {L:BL} {g:AP} {s:AQ}:∀(k:Nat) {w:World},Inv E g w s->Ext L g w g (w.drewN k)/\Inv E g (w.drewN k) s
 | 0,w,h=>⟨Ext.refl L g w,h⟩
 | k+1,w,h=>by
  obtain⟨e1,i1⟩:=Inv.draws (L:=L) k h;obtain⟨e2,i2⟩:=i1.drew (L:=L);exact⟨e1.trans e2,i2⟩
theorem Inv.ASn {E:Env} {L:BL} {s:AQ}:∀(os:List Obj) {g:AP} {w:World},Inv E g w s->∃g',Ext L g w g' (Sort.grow w ⟨os⟩)/\Inv E g' (Sort.grow w ⟨os⟩) s
 | [],g,w,h=>⟨g,by grind[Sort.grow_empty,Ext.refl]⟩
 | o::os,g,w,h=>by
  obtain⟨e1,i1⟩:=h.kL (L:=L) o;obtain⟨g',e2,i2⟩:=Inv.ASn (L:=L) os i1
  have e:Sort.grow w ⟨o::os⟩=Sort.grow (O7 w o) ⟨os⟩:=by
   refine JX ?_ rfl rfl rfl rfl;apply NL
   show(w.heap++(⟨o::os⟩:Array Obj)).toList=((w.heap.push o)++(⟨os⟩:Array Obj)).toList
   simp
  rw[e];exact⟨g',e1.trans e2,i2⟩
def PU (k:IntKind) (zs:List Int):List PV:=zs.map λz=>.sc (.int k z)
theorem AJ1 {E:Env} {g:AP} {w:World} {s:AQ} (h:Inv E g w s) {gl:Nat} {name:String} {k:IntKind} {zs:List Int} (hz:zs≠[]) (hG:E.G gl=some (PU k zs)) (hn:E.P.globalNamed name=some gl):Lib.TabIs E.P w name k zs:=by
 have hc:∀j (z:Int),zs[j]?=some z->w.cell? ⟨gl,j,none⟩=some (.int k z):=by
  intro j z hj;obtain⟨v,_,h2,h3⟩:=h.Fv gl _ hG j (.sc (.int k z)) (by simp[PU,hj]);cases h3;omega
 obtain⟨_,hN⟩:=h.Dc gl _ hG;have hl:(PU k zs).length=zs.length:=by simp[PU]
 rw[hl] at hN;unfold Lib.TabIs World.var?;rw[hn];simp only[YQ]
 obtain⟨z0,hz0⟩:∃z,zs[0]?=some z:=by
  cases zs with
  | nil=>grind
  | cons z _=>simp
 have h0:=hc 0 z0 hz0;unfold World.cell? at h0 hN;cases hh:w.heap[gl]? with
 | none=>grind
 | some o=>
  cases o with
  | cells cs e fz=>
   simp only;congr 1;apply Sa
   grind[World.cell?]
  | _=>grind
theorem uE {P:Program} {W:World} {laid:List (String×DataW Unit)} {n:String} {k:IntKind} {zs:List Int} {g m:Nat} {t e:TypeId} (h:laidMet P laid W) (hm:(n,Lib.tabData k zs)∈laid)
  (hg:P.globalNamed n=some g) (hty:(P.globals[g]?).map (·.type)=some t) (ht:P.underlying t=some (.array m e)) (he:P.underlying e=some (.int k)) (hce:P.cellsOf e=1) (hct:P.cellsOf t=m) (hz:zs≠[]) :
  (∀j c,(PU k zs)[j]?=some c->∃v,g<W.heap.size/\W.cell? ⟨g,j,none⟩=some v/\VP (λb _=>b<W.heap.size) W c v)/\g<W.heap.size/\W.cell? ⟨g,(PU k zs).length,none⟩=none:=by
 obtain⟨ps,hv,_⟩:=h;obtain⟨g',t',cs,fuel,p,h1,h2,h3,h4⟩:=OO hv n _ hm;obtain rfl:=Fk (hg.symm.trans h1);obtain rfl:=Fk (hty.symm.trans h2);have hcs:=Lib.cells_of_tab ht he hce hct h4;have hc:∀j,W.cell? ⟨g,j,none⟩=(zs.map λz=>Value.int k z)[j]?:=λj=>by grind[World.var?_cell]
 have hl:(PU k zs).length=zs.length:=by simp[PU]
 obtain⟨z0,hz0⟩:∃z,zs[0]?=some z:=by
  cases zs with
  | nil=>grind
  | cons z _=>simp
 refine⟨λj c hj=>?_,H8 (a:=⟨g,0,none⟩) (v:=.int k z0) AB,AB⟩;rw[PU,FJ] at hj;cases hzj:zs[j]? with
 | none=>grind
 | some z=>
  rw[hzj] at hj;cases hj;have h5:W.cell? ⟨g,j,none⟩=some (.int k z):=AB;exact⟨_,H8 h5,h5,.sc _⟩
structure ANy (P:Program) (f:FuncId) (name:String):Prop where
 body:Lq P f
 call:∀(n:Int),-9223372036854775808<=n->n<=9223372036854775807->∀w:World,Lib.TabIs P w name .u64 Lib.pow10Tab ->
  Calls P f #[.int .i64 n] w λe w'=>e=.returned (.string ⟨(Lib.itoa n).toArray⟩)/\∃k os,w'=Sort.grow (w.drewN k) os
theorem AAj {E:Env} {f:FuncId} {name:String} {gl:Nat} (hc:ANy E.P f name) (hG:E.G gl=some (PU .u64 Lib.pow10Tab)) (hn:E.P.globalNamed name=some gl):Ql E f oQ:=by
 intro L args s s' v g w vs h hI hargs;refine⟨hc.body,?_⟩;unfold oQ at h;split at h
 .rename_i n
  obtain⟨u,us,rfl,hu,Mi⟩:=hargs.cases;have:=Mi.GN;subst this;have:=hu.DC;subst this;cases hb:Nat.blt n 1099511627776 with
  | false=>grind
  | true=>
   rw[hb] at h;simp only[AM,BN,BU] at h;obtain⟨rfl,rfl⟩:=h;have hlt:n<1099511627776:=Gv hb;have hne:Lib.pow10Tab≠[]:=by grind[Lib.pow10Tab_length]
   refine(hc.call (Int.ofNat n) AD AB w (AJ1 hI hne hG hn)).mono ?_;rintro e w' ⟨rfl,k,os,rfl⟩;obtain⟨e1,i1⟩:=hI.draws (L:=L) k;obtain⟨g',e2,i2⟩:=Inv.ASn (L:=L) os.toList i1;refine⟨_,g',rfl,?_,e1.trans e2,i2⟩;have:Lib.itoa (Int.ofNat n)=HK n:=rI hlt;rw[this];exact .pv (.sc _)
 grind
theorem Va (w:World) (e:TypeId) (t:ByteArray):∃o,Lib.bytesWorld w e t=O7 (Bb w) o:=by
 have hsz:(Lib.bytesWorld w e t).heap.size=w.heap.size+1:=by grind[Lib.bytesWorld,World.freeze,World.alloc,World.drew_eq]
 obtain⟨o,ho⟩:∃o,(Lib.bytesWorld w e t).heap[w.heap.size]?=some o:=⟨_,Array.getElem?_eq_getElem AA⟩;refine⟨o,JX ?_ ?_ ?_ ?_ ?_⟩
 all_goals grind[Bb,Lib.bytesWorld,World.freeze,World.alloc,O7,World.drew_eq]
structure ANz (P:Program) (f:FuncId) (u8:TypeId):Prop where
 body:Lq P f
 call:∀(s:ByteArray) (n:Int),s.size<=18->Lib.atoi s.data.toList=some n->∀w:World,
  Calls P f #[.string s] w λe w'=>e=.returned (.tuple #[.int .i64 n,.nilIface])/\∃t,w'=Lib.bytesWorld w u8 t
theorem AAk {E:Env} {f:FuncId} {u8:TypeId} (hc:ANz E.P f u8):Ql E f gU:=by
 intro L args s s' v g w vs h hI hargs;refine⟨hc.body,?_⟩;unfold gU at h;split at h
 .rename_i b
  obtain⟨u,us,rfl,hu,Mi⟩:=hargs.cases;have:=Mi.GN;subst this;have:=hu.DC;subst this;cases hb:Nat.ble 1 b.data.toList.length&&Nat.ble b.data.toList.length 18 with
  | false=>rw[hb] at h; cases h
  | true=>
   rw[hb] at h;simp only[AM] at h;simp only[AH] at hb;have h1:=Gv hb.1;have h2:=Gv hb.2;cases hu:LJ b.data.toList 0 with
   | none=>rw[hu] at h; cases h
   | some n=>
    rw[hu] at h;simp only[BN,BU] at h;obtain⟨rfl,rfl⟩:=h;refine(hc.call b n (by show b.data.size<=18; simpa using h2) (jm h1 hu) w).mono ?_;rintro e w' ⟨rfl,t,rfl⟩;obtain⟨o,ho⟩:=Va w u8 t;rw[ho];obtain⟨e1,i1⟩:=hI.drew (L:=L);obtain⟨e2,i2⟩:=i1.kL (L:=L) o;refine⟨_,_,rfl,?_,e1.trans e2,i2⟩
    exact .tuple rfl λi c v h1 h2=>by
     match i with
     | 0=>
      cases h1;cases h2;exact .pv (.sc _)
     | 1=>
      cases h1;cases h2;exact .pv (.sc _)
     | i+2=>grind
 grind
end Go.Tel
