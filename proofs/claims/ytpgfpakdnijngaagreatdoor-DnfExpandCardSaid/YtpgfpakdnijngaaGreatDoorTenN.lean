/-
  What calls of strconv.Itoa and strconv.Atoi answer, where the evaluator is told.
-/
import Derived.Test.YtpgfpakdnijngaaGreatDoorEvI
import Derived.Lib.ItoaNum
import Derived.Lib.Atoi
import Derived.Lib.LaidTab
import Derived.Lib.ConvBytes
import Derived.Sort.Grow
import Derived.Deep.Draws
set_option linter.all false
namespace Go.Tel
def Kc:Nat->Nat->List UInt8->List UInt8
 | 0,_,acc=>acc
 | f+1,n,acc=>bif Nat.blt n 10 then UInt8.ofNat (48+n % 10)::acc else Kc f (n / 10) (UInt8.ofNat (48+n % 10)::acc)
def G0 (n:Nat):List UInt8:=Kc 20 n []
def Kl:List UInt8->Nat->Option Nat
 | [],a=>some a
 | c::l,a=>bif Nat.ble 48 c.toNat&&Nat.ble c.toNat 57 then Kl l (a*10+(c.toNat-48)) else none
def nu (_:A8) (args:List AV) (s:AM):Option (AV×AM):=match args with
 | [.pv (.sc (.int .i64 (.ofNat n)))]=>bif Nat.blt n 1099511627776 then some (.pv (.sc (.string ⟨(G0 n).toArray⟩)),s) else none
 | _=>none
def eS (_:A8) (args:List AV) (s:AM):Option (AV×AM):=match args with
 | [.pv (.sc (.string b))]=>bif Nat.ble 1 b.data.toList.length&&Nat.ble b.data.toList.length 18 then match Kl b.data.toList 0 with
  | some n=>some (.tuple [.pv (.sc (.int .i64 (.ofNat n))),.pv (.sc .nilIface)],s)
  | none=>none
  else none
 | _=>none
theorem Wf:∀(f n:Nat) (acc:List UInt8),n<10 ^ f->0<f->Kc f n acc=Lib.decDigits n++acc
 | 0,_,_,_,h=>absurd h (by omega)
 | f+1,n,acc,h,_=>by
  rw[Kc,Lib.decDigits]
  by_cases hn:n<10
  .grind[Nat.blt,Nat.ble_eq_true_of_le]
  .have e:Nat.blt n 10=false:=by
    cases hb:Nat.blt n 10 with
    | false=>rfl
    | true=>exact absurd (C1 hb) (by omega)
   rw[e,dif_neg hn];have hf:0<f:=by grind
   have h2:n / 10<10 ^ f:=by omega
   simp only[AG];rw[Wf f (n / 10) _ h2 hf];simp
theorem pH {n:Nat} (h:n<1099511627776):Lib.itoa (n:Int)=G0 n:=by
 have h1:¬ (n:Int)<0:=by omega
 rw[Lib.itoa,if_neg h1,G0,Wf 20 n [] (by omega) (by decide)];simp
theorem Wh:∀(l:List UInt8) (a:Nat),Lib.decFrom a l=Kl l a
 | [],_=>rfl
 | c::l,a=>by
  rw[Lib.decFrom,Kl,Lib.digitVal]
  by_cases h:48<=c.toNat/\c.toNat<=57
  .rw[if_pos h,jN h.1,jN h.2]
   exact Wh l _
  grind[Nat.le_of_ble_eq_true]
theorem iP {l:List UInt8} {n:Nat} (hl:1<=l.length) (h:Kl l 0=some n):Lib.atoi l=some (n:Int):=by
 cases l with
 | nil=>grind
 | cons c l=>
  have h0:=h;rw[Kl] at h;cases hb:Nat.ble 48 c.toNat&&Nat.ble c.toNat 57 with
  | false=>grind
  | true=>
   simp only[AE] at hb;have h1:=C1 hb.1
   have e1:(c==45)=false:=by
    cases hc:c==45 with
    | false=>rfl
    | true=>
     simp_all
   have e2:(c==43)=false:=by
    cases hc:c==43 with
    | false=>rfl
    | true=>
     simp_all
   grind[Lib.atoi,Lib.decNat,Wh]
theorem Inv.draws {E:Env} {L:A8} {g:AH} {s:AM}:∀(k:Nat) {w:World},Inv E g w s->Ext L g w g (w.drewN k)/\Inv E g (w.drewN k) s
 | 0,w,h=>⟨Ext.refl L g w,h⟩
 | k+1,w,h=>by
  obtain⟨e1,i1⟩:=Inv.draws (L:=L) k h;obtain⟨e2,i2⟩:=i1.drew (L:=L);exact⟨e1.trans e2,i2⟩
theorem Inv.ATU {E:Env} {L:A8} {s:AM}:∀(os:List Obj) {g:AH} {w:World},Inv E g w s->∃g',Ext L g w g' (Sort.grow w ⟨os⟩)/\Inv E g' (Sort.grow w ⟨os⟩) s
 | [],g,w,h=>⟨g,by grind[Sort.grow_empty,Ext.refl]⟩
 | o::os,g,w,h=>by
  obtain⟨e1,i1⟩:=h.jR (L:=L) o;obtain⟨g',e2,i2⟩:=Inv.ATU (L:=L) os i1
  have e:Sort.grow w ⟨o::os⟩=Sort.grow (N6 w o) ⟨os⟩:=by
   refine I3 ?_ rfl rfl rfl rfl;apply MJ
   show(w.heap++(⟨o::os⟩:Array Obj)).toList=((w.heap.push o)++(⟨os⟩:Array Obj)).toList
   simp
  rw[e];exact⟨g',e1.trans e2,i2⟩
def OU (k:IntKind) (zs:List Int):List PV:=zs.map λz=>.sc (.int k z)
theorem AMo {E:Env} {g:AH} {w:World} {s:AM} (h:Inv E g w s) {gl:Nat} {name:String} {k:IntKind} {zs:List Int} (hz:zs≠[]) (hG:E.G gl=some (OU k zs)) (hn:E.P.globalNamed name=some gl):Lib.TabIs E.P w name k zs:=by
 have hc:∀j (z:Int),zs[j]?=some z->w.cell? ⟨gl,j,none⟩=some (.int k z):=by
  intro j z hj;obtain⟨v,_,h2,h3⟩:=h.FZ gl _ hG j (.sc (.int k z)) (by simp[OU,hj]);cases h3;omega
 obtain⟨_,hN⟩:=h.DZ gl _ hG;have hl:(OU k zs).length=zs.length:=by simp[OU]
 rw[hl] at hN;unfold Lib.TabIs World.var?;rw[hn];simp only[W5]
 obtain⟨z0,hz0⟩:∃z,zs[0]?=some z:=by
  cases zs with
  | nil=>grind
  | cons z _=>simp
 have h0:=hc 0 z0 hz0;unfold World.cell? at h0 hN;cases hh:w.heap[gl]? with
 | none=>grind
 | some o=>
  cases o with
  | cells cs e fz=>
   simp only;congr 1;apply RI
   grind[World.cell?]
  | _=>grind
theorem sR {P:Program} {W:World} {laid:List (String×DataW Unit)} {n:String} {k:IntKind} {zs:List Int} {g m:Nat} {t e:TypeId} (h:laidMet P laid W) (hm:(n,Lib.tabData k zs)∈laid)
  (hg:P.globalNamed n=some g) (hty:(P.globals[g]?).map (·.type)=some t) (ht:P.underlying t=some (.array m e)) (he:P.underlying e=some (.int k)) (hce:P.cellsOf e=1) (hct:P.cellsOf t=m) (hz:zs≠[]) :
  (∀j c,(OU k zs)[j]?=some c->∃v,g<W.heap.size/\W.cell? ⟨g,j,none⟩=some v/\VP (λb _=>b<W.heap.size) W c v)/\g<W.heap.size/\W.cell? ⟨g,(OU k zs).length,none⟩=none:=by
 obtain⟨ps,hv,_⟩:=h;obtain⟨g',t',cs,fuel,p,h1,h2,h3,h4⟩:=NK hv n _ hm;obtain rfl:=FQ (hg.symm.trans h1);obtain rfl:=FQ (hty.symm.trans h2);have hcs:=Lib.cells_of_tab ht he hce hct h4;have hc:∀j,W.cell? ⟨g,j,none⟩=(zs.map λz=>Value.int k z)[j]?:=λj=>by grind[World.var?_cell]
 have hl:(OU k zs).length=zs.length:=by simp[OU]
 obtain⟨z0,hz0⟩:∃z,zs[0]?=some z:=by
  cases zs with
  | nil=>grind
  | cons z _=>simp
 refine⟨λj c hj=>?_,HY (a:=⟨g,0,none⟩) (v:=.int k z0) (by grind),by grind⟩;rw[OU,Fy] at hj;cases hzj:zs[j]? with
 | none=>grind
 | some z=>
  rw[hzj] at hj;cases hj;have h5:W.cell? ⟨g,j,none⟩=some (.int k z):=by grind
  exact⟨_,HY h5,h5,.sc _⟩
structure AOo (P:Program) (f:FuncId) (name:String):Prop where
 body:K4 P f
 call:∀(n:Int),-9223372036854775808<=n->n<=9223372036854775807->∀w:World,Lib.TabIs P w name .u64 Lib.pow10Tab ->
  Calls P f #[.int .i64 n] w λe w'=>e=.returned (.string ⟨(Lib.itoa n).toArray⟩)/\∃k os,w'=Sort.grow (w.drewN k) os
theorem ACV {E:Env} {f:FuncId} {name:String} {gl:Nat} (hc:AOo E.P f name) (hG:E.G gl=some (OU .u64 Lib.pow10Tab)) (hn:E.P.globalNamed name=some gl):PW E f nu:=by
 intro L args s s' v g w vs h hI hargs;refine⟨hc.body,?_⟩;unfold nu at h;split at h
 .rename_i n
  obtain⟨u,us,rfl,hu,ND⟩:=hargs.cases;have:=ND.F2;subst this;have:=hu.C2;subst this;cases hb:Nat.blt n 1099511627776 with
  | false=>grind
  | true=>
   rw[hb] at h;simp only[AN,BG,BK] at h;obtain⟨rfl,rfl⟩:=h;have hlt:n<1099511627776:=C1 hb;have hne:Lib.pow10Tab≠[]:=by grind[Lib.pow10Tab_length]
   refine(hc.call (Int.ofNat n) (by simp) (by grind) w (AMo hI hne hG hn)).mono ?_;rintro e w' ⟨rfl,k,os,rfl⟩;obtain⟨e1,i1⟩:=hI.draws (L:=L) k;obtain⟨g',e2,i2⟩:=Inv.ATU (L:=L) os.toList i1;refine⟨_,g',rfl,?_,e1.trans e2,i2⟩;have:Lib.itoa (Int.ofNat n)=G0 n:=pH hlt;rw[this];exact .pv (.sc _)
 grind
theorem UH (w:World) (e:TypeId) (t:ByteArray):∃o,Lib.bytesWorld w e t=N6 (BU w) o:=by
 have hsz:(Lib.bytesWorld w e t).heap.size=w.heap.size+1:=by grind[Lib.bytesWorld,World.freeze,World.alloc,World.drew_eq]
 obtain⟨o,ho⟩:∃o,(Lib.bytesWorld w e t).heap[w.heap.size]?=some o:=⟨_,Array.getElem?_eq_getElem (by omega)⟩;refine⟨o,I3 ?_ ?_ ?_ ?_ ?_⟩
 all_goals grind[BU,Lib.bytesWorld,World.freeze,World.alloc,N6,World.drew_eq]
structure AOp (P:Program) (f:FuncId) (u8:TypeId):Prop where
 body:K4 P f
 call:∀(s:ByteArray) (n:Int),s.size<=18->Lib.atoi s.data.toList=some n->∀w:World,
  Calls P f #[.string s] w λe w'=>e=.returned (.tuple #[.int .i64 n,.nilIface])/\∃t,w'=Lib.bytesWorld w u8 t
theorem ACW {E:Env} {f:FuncId} {u8:TypeId} (hc:AOp E.P f u8):PW E f eS:=by
 intro L args s s' v g w vs h hI hargs;refine⟨hc.body,?_⟩;unfold eS at h;split at h
 .rename_i b
  obtain⟨u,us,rfl,hu,ND⟩:=hargs.cases;have:=ND.F2;subst this;have:=hu.C2;subst this;cases hb:Nat.ble 1 b.data.toList.length&&Nat.ble b.data.toList.length 18 with
  | false=>rw[hb] at h; cases h
  | true=>
   rw[hb] at h;simp only[AN] at h;simp only[AE] at hb;have h1:=C1 hb.1;have h2:=C1 hb.2;cases hu:Kl b.data.toList 0 with
   | none=>rw[hu] at h; cases h
   | some n=>
    rw[hu] at h;simp only[BG,BK] at h;obtain⟨rfl,rfl⟩:=h;refine(hc.call b n (by show b.data.size<=18; simpa using h2) (iP h1 hu) w).mono ?_;rintro e w' ⟨rfl,t,rfl⟩;obtain⟨o,ho⟩:=UH w u8 t;rw[ho];obtain⟨e1,i1⟩:=hI.drew (L:=L);obtain⟨e2,i2⟩:=i1.jR (L:=L) o;refine⟨_,_,rfl,?_,e1.trans e2,i2⟩
    exact .tuple rfl λi c v h1 h2=>by
     match i with
     | 0=>
      cases h1;cases h2;exact .pv (.sc _)
     | 1=>
      cases h1;cases h2;exact .pv (.sc _)
     | i+2=>grind
 grind
end Go.Tel
