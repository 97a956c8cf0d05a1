/-
  Calls from a world whose arguments are slices of integers and strings.
-/
import Derived.Test.YtpgfpakdnijngaaGreatDoorWvD
import Derived.ChangeSlices
set_option linter.unusedSimpArgs false
set_option linter.unusedVariables false
namespace Go.Tel
open Go.ChangeShapes Go.WideShapes
theorem Y8 {E:Env} (hG:Good E) {f:FuncId} {args:List AV} {vs:List Value} {u:Value} {s':AK} {W:World} (hW:iT E W) (hargs:VL (AH.bare fun b _=>b<W.heap.size) W args vs) (h:BC E L0 f args ⟨[],[]⟩ (.pv (.sc u)) s') :
  Calls E.P f vs.toArray W fun e w'=>e=.returned u/\Still W w':=by
 obtain⟨n,hn⟩:=h;refine((Qu hG n L0 f _ _ _ _ _ _ _ (hn n (AL n)) hW.inv hargs).2).mono ?_;rintro e w' ⟨v',g',rfl,hv,hx,_⟩;refine⟨by rw[hv.CM],hx.os,hx.output,fun b hb=>(hx.out b hb (fun _ e=>by simp[AH.bare] at e) (fun _ _ e=>by simp[AH.bare] at e) (fun _ e=>by simp[AH.bare] at e)).1⟩
theorem AMV {g:AH} {w:World} (n:Int):V g w (AD n) (.int .i64 n):=.pv (.sc _)
theorem AMW {g:AH} {w:World} (b:ByteArray):V g w (SS b.data.toList) (.string b):=.pv (.sc _)
theorem vu {g:AH} {w:World}:V g w (.pv (.list (A4 []))) (.slice none 0 0):=
 .pv (VP.IP (rows:=[]) (b:=0) (o:=0) (sz:=0) (f:=fun _ _=>undef) EH.nil (AL 0))
theorem gQ {W:World} {a:Addr} {cap:Nat} {zs:List Int} (hcap:zs.length<=cap) (hcell:∀ i,i<zs.length->W.cell? (a.add i)=some (.int .i64 (zs.getD i 0))) :
  V (AH.bare fun b _=>b<W.heap.size) W (.pv (.list (A4 zs))) (.slice (some a) zs.length cap):=by
 obtain⟨b,off,spot⟩:=a
 have Za:zs≠[]->spot=none:=fun hne=>by
  cases hz:zs with
  | nil=>exact absurd hz hne
  | cons z0 z=>simpa[Addr.add] using World.cell?_spot (hcell 0 (by simp[hz]))
 have get:∀ i z,zs[i]?=some z->W.cell? ⟨b,off+i,none⟩=some (.int .i64 z):=fun i z hs=>by
  have hsp:=Za (fun e=>by simp[e] at hs);subst hsp;have hi:i<zs.length:=(Ae.1 hs).1;have:=hcell i hi;rw[DW] at this;simpa[List.getD,hs] using this
 have:=VP.IP (I:=fun b _=>b<W.heap.size) (w:=W) (rows:=A4 zs) (base:=some ⟨b,off,spot⟩) (b:=b) (o:=off) (sz:=1) (f:=fun i _=>.int .i64 (zs.getD i 0)) (cap:=cap)
  ⟨fun row hr=>by
    obtain⟨s,_,rfl⟩:=Bb.1 hr;rfl,
   fun hne _=>by
    rw[Za (fun e=>by simp[e,A4] at hne)],
   fun i row j c hr hj=>by
    simp only[A4,DR] at hr;cases hs:zs[i]? with
    | none=>simp[hs] at hr
    | some s=>
     simp[hs] at hr; subst hr;have hj0:j=0:=by have:=(Ae.1 hj).1; simpa using this
     subst hj0;have Hl:=get i s hs;refine⟨Hu Hl,?_⟩;simp only[Mm,Dq];rw[Hl];simp[List.getD,hs],
   fun i row j c hr hj=>by
    simp only[A4,DR] at hr;cases hs:zs[i]? with
    | none=>simp[hs] at hr
    | some s=>
     simp[hs] at hr; subst hr;have hj0:j=0:=by have:=(Ae.1 hj).1; simpa using this
     subst hj0;simp at hj; subst hj;simp only[List.getD,hs,I2];exact .sc _⟩ (by simpa[A4] using hcap)
 rw[Dy] at this;exact .pv this
end Go.Tel
