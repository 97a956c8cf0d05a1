/-
  Slices of integers as arguments, with the datum.
-/
import Derived.Test.YtpgfpakdnijngaaGreatDoorWvF
set_option linter.unusedSimpArgs false
set_option linter.unusedVariables false
namespace Go.Tel
open Go.ChangeShapes Go.WideShapes Go.ChangeMaps
section
variable {H:Type} {enc:TypeId×Value->H} {P:Program} {W:World}
theorem AHI {t e:TypeId} {v:Value} {d:DataW H} {p:List MemPlace} (ht:P.underlying t=some (.slice e)) (he:P.underlying e=some (.int .i64)) (hc:P.cellsOf e=1) (hb:P.bytesOf e=8)
  {r:Reach} {b0:Nat} (hval:Value.okWide P W r b0 t v) (h:DataW.Trod enc P W 0 (fun _=>true) true t v d p) :
  ∃ zs:List Int,V (AH.bare fun b _=>b<W.heap.size) W (.pv (.list (A4 zs))) v /\
   (∀ W',Still W W'->∀ sp:Nat->Bool,(∀ x∈p,sp x.block=true)->DataW.Trod enc P W' 0 sp true t v d p) /\
   ((d.weights P t).all (·<=reachBytes)=true->zs.length<2 ^ 44)/\(zs=[]\/∃ el sp,d=.slice el sp/\zs.length<=el.length):=by
 obtain⟨a,len,cap,rfl⟩:=okWide_slice ht hval;obtain⟨fuel,hf⟩:=h;have hf0:=hf;rcases open_ints ht he hc hf with ⟨hcs,hx⟩|⟨a',len',cap',zs,hcs,_,hl,hm,hz,hx,hcell,hwz⟩
 ·simp only[Value.cells,Jz,Value.slice.injEq,IK] at hcs
  obtain⟨rfl,rfl,rfl⟩:=hcs;refine⟨[],vu,fun W' _ sp _=>?_,fun _=>by simp,.inl rfl⟩;simp only[Af] at hx;obtain⟨rfl,rfl⟩:=hx;refine⟨1,?_⟩;rw[DataW.trod_step];unfold DataW.trodStep;simp[ht,Value.cells]
 ·obtain⟨zs',V',T',_⟩:=cU ht he hc hb hval ⟨fuel,hf0⟩
  simp only[Value.cells,Jz,Value.slice.injEq,IK] at hcs;obtain⟨rfl,rfl,rfl⟩:=hcs;simp only[Dr] at hz;simp only[Af] at hx;obtain⟨rfl,rfl⟩:=hx;have hlen:(zs.take len).length=len:=by simp; omega
  refine⟨zs.take len,?_,T',fun hw=>?_,.inr ⟨_,_,rfl,by simp[lits]⟩⟩
  ·have:=gQ (W:=W) (a:=a') (cap:=cap) (zs:=zs.take len) (by omega) (fun i hi=>by
    rw[hlen] at hi;rw[hcell i (by omega)];simp[List.getD,CT,hi])
   rw[hlen] at this;exact this
  ·simp only[DataW.weights,ht,lits,AZ,Ft,AG,BT,hb] at hw
   have h1:=hw.1;simp only[DU,Rj,reachBytes] at h1;simp only[DU];omega
end
end Go.Tel
