/-
  What calls of strconv.Itoa and strconv.Atoi answer, where the evaluator is told.
-/
import Derived.Test.YtpgfpakdnijngaaGreatDoorEvI
import Derived.Lib.ItoaNum
import Derived.Lib.Atoi
import Derived.Lib.LaidTab
import Derived.Lib.ConvBytes
import Derived.Sort.Grow
import Derived.Deep.Draws
set_option linter.unusedSimpArgs false
set_option linter.unusedVariables false
namespace Go.Tel
def KI:Nat->Nat->List UInt8->List UInt8
 | 0,_,acc=>acc
 | f+1,n,acc=>bif Nat.blt n 10 then UInt8.ofNat (48+n % 10)::acc else KI f (n / 10) (UInt8.ofNat (48+n % 10)::acc)
def GH (n:Nat):List UInt8:=KI 20 n []
def Ku:List UInt8->Nat->Option Nat
 | [],a=>some a
 | c::l,a=>bif Nat.ble 48 c.toNat&&Nat.ble c.toNat 57 then Ku l (a*10+(c.toNat-48)) else none
def ld (_:A0) (args:List AV) (s:AK):Option (AV×AK):=match args with
 | [.pv (.sc (.int .i64 (.ofNat n)))]=>bif Nat.blt n 1099511627776 then some (.pv (.sc (.string ⟨(GH n).toArray⟩)),s) else none
 | _=>none
def eC (_:A0) (args:List AV) (s:AK):Option (AV×AK):=match args with
 | [.pv (.sc (.string b))]=>bif Nat.ble 1 b.data.toList.length&&Nat.ble b.data.toList.length 18 then match Ku b.data.toList 0 with
  | some n=>some (.tuple [.pv (.sc (.int .i64 (.ofNat n))),.pv (.sc .nilIface)],s)
  | none=>none
  else none
 | _=>none
theorem Wf:∀ (f n:Nat) (acc:List UInt8),n<10 ^ f->0<f->KI f n acc=Lib.decDigits n++acc
 | 0,_,_,_,h=>absurd h (by omega)
 | f+1,n,acc,h,_=>by
  rw[KI,Lib.decDigits]
  by_cases hn:n<10
  ·have e:Nat.blt n 10=true:=IL hn
   rw[e,dif_pos hn];have:n % 10=n:=by omega
   simp[this]
  ·have e:Nat.blt n 10=false:=by
    cases hb:Nat.blt n 10 with
    | false=>rfl
    | true=>exact absurd (Cm hb) (by omega)
   rw[e,dif_neg hn]
   have hf:0<f:=by
    rcases f with _|f
    ·simp at h; omega
    ·omega
   have h2:n / 10<10 ^ f:=by
    rw[OW] at h;omega
   simp only[AB];rw[Wf f (n / 10) _ h2 hf];simp
theorem mX {n:Nat} (h:n<1099511627776):Lib.itoa (n:Int)=GH n:=by
 have h1:¬ (n:Int)<0:=by omega
 rw[Lib.itoa,if_neg h1,GH,Wf 20 n [] (by have:(1099511627776:Nat)<10 ^ 20:=by decide
                                         omega) (by decide)]
 simp
theorem Wh:∀ (l:List UInt8) (a:Nat),Lib.decFrom a l=Ku l a
 | [],_=>rfl
 | c::l,a=>by
  rw[Lib.decFrom,Ku,Lib.digitVal]
  by_cases h:48<=c.toNat/\c.toNat<=57
  ·rw[if_pos h,IL h.1,IL h.2]
   exact Wh l _
  ·rw[if_neg h]
   cases hb:Nat.ble 48 c.toNat&&Nat.ble c.toNat 57 with
   | false=>rfl
   | true=>
    simp only[AG] at hb;exact absurd ⟨Cm hb.1,Cm hb.2⟩ h
theorem fu {l:List UInt8} {n:Nat} (hl:1<=l.length) (h:Ku l 0=some n):Lib.atoi l=some (n:Int):=by
 cases l with
 | nil=>simp at hl
 | cons c l=>
  have h0:=h;rw[Ku] at h;cases hb:Nat.ble 48 c.toNat&&Nat.ble c.toNat 57 with
  | false=>rw[hb] at h; cases h
  | true=>
   simp only[AG] at hb;have h1:=Cm hb.1
   have e1:(c==45)=false:=by
    cases hc:c==45 with
    | false=>rfl
    | true=>
     have:c=45:=by simpa using hc
     subst this;simp at h1
   have e2:(c==43)=false:=by
    cases hc:c==43 with
    | false=>rfl
    | true=>
     have:c=43:=by simpa using hc
     subst this;simp at h1
   rw[Lib.atoi,e1,e2];simp only[Cc,Dk,Lib.decNat,List.isEmpty_cons];rw[Wh,h0];rfl
theorem Inv.draws {E:Env} {L:A0} {g:AH} {s:AK}:∀ (k:Nat) {w:World},Inv E g w s->Ext L g w g (w.drewN k)/\Inv E g (w.drewN k) s
 | 0,w,h=>⟨Ext.refl L g w,h⟩
 | k+1,w,h=>by
  obtain⟨e1,i1⟩:=Inv.draws (L:=L) k h;obtain⟨e2,i2⟩:=i1.drew (L:=L);exact⟨e1.trans e2,i2⟩
theorem Inv.ALa {E:Env} {L:A0} {s:AK}:∀ (os:List Obj) {g:AH} {w:World},Inv E g w s->∃ g',Ext L g w g' (Sort.grow w ⟨os⟩)/\Inv E g' (Sort.grow w ⟨os⟩) s
 | [],g,w,h=>⟨g,by
   have e:Sort.grow w ⟨[]⟩=w:=Sort.grow_empty w;rw[e];exact⟨Ext.refl L g w,h⟩⟩
 | o::os,g,w,h=>by
  obtain⟨e1,i1⟩:=h.ZH (L:=L) o;obtain⟨g',e2,i2⟩:=Inv.ALa (L:=L) os i1
  have e:Sort.grow w ⟨o::os⟩=Sort.grow (HE w o) ⟨os⟩:=by
   refine Ho ?_ rfl rfl rfl rfl;apply D9
   show(w.heap++(⟨o::os⟩:Array Obj)).toList=((w.heap.push o)++(⟨os⟩:Array Obj)).toList
   simp only[Array.toList_append,Array.toList_push,DI,EZ,Di]
  rw[e];exact⟨g',e1.trans e2,i2⟩
def Oy (k:IntKind) (zs:List Int):List PV:=zs.map fun z=>.sc (.int k z)
theorem AGU {E:Env} {g:AH} {w:World} {s:AK} (h:Inv E g w s) {gl:Nat} {name:String} {k:IntKind} {zs:List Int} (hz:zs≠[]) (hG:E.G gl=some (Oy k zs)) (hn:E.P.globalNamed name=some gl):Lib.TabIs E.P w name k zs:=by
 have hc:∀ j (z:Int),zs[j]?=some z->w.cell? ⟨gl,j,none⟩=some (.int k z):=by
  intro j z hj;obtain⟨v,_,h2,h3⟩:=h.Ey gl _ hG j (.sc (.int k z)) (by simp[Oy,hj]);cases h3;exact h2
 obtain⟨_,hN⟩:=h.C3 gl _ hG;have hl:(Oy k zs).length=zs.length:=by simp[Oy]
 rw[hl] at hN;unfold Lib.TabIs World.var?;rw[hn];simp only[W5]
 obtain⟨z0,hz0⟩:∃ z,zs[0]?=some z:=by
  cases zs with
  | nil=>exact absurd rfl hz
  | cons z _=>exact⟨z,rfl⟩
 have h0:=hc 0 z0 hz0;unfold World.cell? at h0 hN;cases hh:w.heap[gl]? with
 | none=>simp[hh] at h0
 | some o=>
  cases o with
  | cells cs e fz=>
   simp only;congr 1;apply Mi;intro j
   by_cases hj:j<zs.length
   ·obtain⟨z,hzj⟩:∃ z,zs[j]?=some z:=⟨_,Ak hj⟩
    have:=hc j z hzj;unfold World.cell? at this;rw[hh] at this;simp only[OP,Cc,Dk] at this;rw[this];simp[hzj]
   ·rw[hh] at hN
    simp only[OP,Cc,Dk,Array.getElem?_eq_none_iff] at hN;rw[ID (by omega),ID (by simp; omega)]
  | _=>simp[hh] at h0
theorem pQ {P:Program} {W:World} {laid:List (String×DataW Unit)} {n:String} {k:IntKind} {zs:List Int} {g m:Nat} {t e:TypeId} (h:laidMet P laid W) (hm:(n,Lib.tabData k zs)∈laid)
  (hg:P.globalNamed n=some g) (hty:(P.globals[g]?).map (·.type)=some t) (ht:P.underlying t=some (.array m e)) (he:P.underlying e=some (.int k)) (hce:P.cellsOf e=1) (hct:P.cellsOf t=m) (hz:zs≠[]) :
  (∀ j c,(Oy k zs)[j]?=some c->∃ v,g<W.heap.size/\W.cell? ⟨g,j,none⟩=some v/\VP (fun b _=>b<W.heap.size) W c v)/\g<W.heap.size/\W.cell? ⟨g,(Oy k zs).length,none⟩=none:=by
 obtain⟨ps,hv,_⟩:=h;obtain⟨g',t',cs,fuel,p,h1,h2,h3,h4⟩:=Nv hv n _ hm;obtain rfl:=EL (hg.symm.trans h1);obtain rfl:=EL (hty.symm.trans h2);have hcs:=Lib.cells_of_tab ht he hce hct h4
 have hc:∀ j,W.cell? ⟨g,j,none⟩=(zs.map fun z=>Value.int k z)[j]?:=fun j=>by
  rw[World.var?_cell hg h3 j,<-hcs];simp
 have hl:(Oy k zs).length=zs.length:=by simp[Oy]
 obtain⟨z0,hz0⟩:∃ z,zs[0]?=some z:=by
  cases zs with
  | nil=>exact absurd rfl hz
  | cons z _=>exact⟨z,rfl⟩
 refine⟨fun j c hj=>?_,Hu (a:=⟨g,0,none⟩) (v:=.int k z0) (by rw[hc,DR,hz0]; rfl),by rw[hc,hl]; simp⟩;rw[Oy,DR] at hj;cases hzj:zs[j]? with
 | none=>rw[hzj] at hj; cases hj
 | some z=>
  rw[hzj] at hj;cases hj;have h5:W.cell? ⟨g,j,none⟩=some (.int k z):=by rw[hc,DR,hzj]; rfl
  exact⟨_,Hu h5,h5,.sc _⟩
structure AH8 (P:Program) (f:FuncId) (name:String):Prop where
 body:LR P f
 call:∀ (n:Int),-9223372036854775808<=n->n<=9223372036854775807->∀ w:World,Lib.TabIs P w name .u64 Lib.pow10Tab ->
  Calls P f #[.int .i64 n] w fun e w'=>e=.returned (.string ⟨(Lib.itoa n).toArray⟩)/\∃ k os,w'=Sort.grow (w.drewN k) os
theorem yV {E:Env} {f:FuncId} {name:String} {gl:Nat} (hc:AH8 E.P f name) (hG:E.G gl=some (Oy .u64 Lib.pow10Tab)) (hn:E.P.globalNamed name=some gl):P0 E f ld:=by
 intro L args s s' v g w vs h hI hargs;refine⟨hc.body,?_⟩;unfold ld at h;split at h
 ·rename_i n
  obtain⟨u,us,rfl,hu,OH⟩:=hargs.cases;have:=OH.Ee;subst this;have:=hu.CM;subst this;cases hb:Nat.blt n 1099511627776 with
  | false=>rw[hb] at h; cases h
  | true=>
   rw[hb] at h;simp only[AE,AY,Af] at h;obtain⟨rfl,rfl⟩:=h;have hlt:n<1099511627776:=Cm hb
   have hne:Lib.pow10Tab≠[]:=by
    intro e;have:=Lib.pow10Tab_length;rw[e] at this;simp at this
   refine(hc.call (Int.ofNat n) (by simp only[W8]; omega) (by simp only[W8]; omega) w (AGU hI hne hG hn)).mono ?_;rintro e w' ⟨rfl,k,os,rfl⟩;obtain⟨e1,i1⟩:=hI.draws (L:=L) k;obtain⟨g',e2,i2⟩:=Inv.ALa (L:=L) os.toList i1;refine⟨_,g',rfl,?_,e1.trans e2,i2⟩;have:Lib.itoa (Int.ofNat n)=GH n:=mX hlt;rw[this];exact .pv (.sc _)
 ·cases h
theorem UB (w:World) (e:TypeId) (t:ByteArray):∃ o,Lib.bytesWorld w e t=HE (A5 w) o:=by
 have hsz:(Lib.bytesWorld w e t).heap.size=w.heap.size+1:=by
  simp[Lib.bytesWorld,World.freeze,World.alloc,World.drew,-World.alloc_eq,-World.drew_eq]
 obtain⟨o,ho⟩:∃ o,(Lib.bytesWorld w e t).heap[w.heap.size]?=some o:=⟨_,Array.getElem?_eq_getElem (by omega)⟩;refine⟨o,Ho ?_ ?_ ?_ ?_ ?_⟩
 ·apply Mi
  intro k;rw[Hp];have e0:(A5 w).heap.size=w.heap.size:=rfl
  by_cases hk:k=w.heap.size
  ·rw[if_pos (by rw[e0]; exact hk),hk]
   exact ho
  ·rw[if_neg (by rw[e0]; exact hk)]
   by_cases hlt:k<w.heap.size
   ·exact Lib.bytesWorld_at_old w e t k hlt
   ·rw[ID (by omega)]
    exact(ID (by show w.heap.size<=k; omega)).symm
 all_goals simp[Lib.bytesWorld,World.freeze,World.alloc,World.drew,HE,A5,-World.alloc_eq,-World.drew_eq]
structure AH9 (P:Program) (f:FuncId) (u8:TypeId):Prop where
 body:LR P f
 call:∀ (s:ByteArray) (n:Int),s.size<=18->Lib.atoi s.data.toList=some n->∀ w:World,
  Calls P f #[.string s] w fun e w'=>e=.returned (.tuple #[.int .i64 n,.nilIface])/\∃ t,w'=Lib.bytesWorld w u8 t
theorem yW {E:Env} {f:FuncId} {u8:TypeId} (hc:AH9 E.P f u8):P0 E f eC:=by
 intro L args s s' v g w vs h hI hargs;refine⟨hc.body,?_⟩;unfold eC at h;split at h
 ·rename_i b
  obtain⟨u,us,rfl,hu,OH⟩:=hargs.cases;have:=OH.Ee;subst this;have:=hu.CM;subst this;cases hb:Nat.ble 1 b.data.toList.length&&Nat.ble b.data.toList.length 18 with
  | false=>rw[hb] at h; cases h
  | true=>
   rw[hb] at h;simp only[AE] at h;simp only[AG] at hb;have h1:=Cm hb.1;have h2:=Cm hb.2;cases hu:Ku b.data.toList 0 with
   | none=>rw[hu] at h; cases h
   | some n=>
    rw[hu] at h;simp only[AY,Af] at h;obtain⟨rfl,rfl⟩:=h;refine(hc.call b n (by show b.data.size<=18; simpa using h2) (fu h1 hu) w).mono ?_;rintro e w' ⟨rfl,t,rfl⟩;obtain⟨o,ho⟩:=UB w u8 t;rw[ho];obtain⟨e1,i1⟩:=hI.drew (L:=L);obtain⟨e2,i2⟩:=i1.ZH (L:=L) o;refine⟨_,_,rfl,?_,e1.trans e2,i2⟩
    exact .tuple rfl fun i c v h1 h2=>by
     match i with
     | 0=>
      cases h1;cases h2;exact .pv (.sc _)
     | 1=>
      cases h1;cases h2;exact .pv (.sc _)
     | i+2=>simp at h1
 ·cases h
end Go.Tel
