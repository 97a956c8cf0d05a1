/-
  Arguments of a card: slices of integers, strings; what they hold, and that they read as before.
-/
import Derived.Test.YtpgfpakdnijngaaGreatDoorWvE
import Derived.ChangeMaps5
set_option linter.all false
namespace Go.Tel
open Go.ChangeShapes Go.WideShapes Go.ChangeMaps
section
variable {H:Type} {enc:TypeId×Value->H} {P:Program} {W:World}
def yp {t e:TypeId} {v:Value} {d:DataW H} {p:List MemPlace} (m:P.underlying t=some (.slice e)) (o:P.underlying e=some (.int .i64)) (s:P.cellsOf e=1) (hb:P.bytesOf e=8)
  {r:Reach} {D:Nat} (y:Value.okWide P W r D t v) (h:DataW.Trod enc P W 0 (λ_=>true) true t v d p) :
  ∃f:Ϛ,V (AZ.bare λb _=>b<W.heap.size) W (.pv (.list (Ai f))) v /\
   (∀l,Still W l->∀k:Nat->Bool,(∀x∈p,k x.block=true)->DataW.Trod enc P l 0 k true t v d p) /\
   ((d.weights P t).all (·<=reachBytes)=true->f.length<2 ^ 61):=by
 obtain⟨a,len,Q,rfl⟩:=okWide_slice m y;obtain⟨L,hf⟩:=h;have S:=hf;rcases open_ints m o s hf with ⟨j,hx⟩|⟨n,M,N,f,j,_,E,hm,I,hx,u,z⟩
 .simp only[Value.cells,PT,Value.slice.injEq,L1] at j
  obtain⟨rfl,rfl,rfl⟩:=j;refine⟨[],AEr,λl _ k _=>?_,λ_=>by simp⟩;simp only[Bg] at hx;obtain⟨rfl,rfl⟩:=hx;refine⟨1,?_⟩;simp[*,DataW.trod_step,DataW.trodStep,Value.cells]
 .simp only[Value.cells,PT,Value.slice.injEq,L1] at j
  obtain⟨rfl,rfl,rfl⟩:=j;simp only[HA] at I;simp only[Bg] at hx;obtain⟨rfl,rfl⟩:=hx;have O:(f.take len).length=len:=AB;refine⟨f.take len,?_,λl A k B=>?_,λT=>?_⟩
  .grind[ym]
  .refine⟨0+2,shut_ints 0 m o s (AO _) E hm ?_ (λi K=>?_) z⟩
   .by_cases U:f.length=0
    .grind
    .have:k n.block=true:=B (.cell n.block (n.off+0)) (Cw.2 ⟨0,List.mem_range.2 AA,rfl⟩)
     grind
   .have:=u i K
    have C:=World.block_lt_of_cell? _ _ this;rw[<-this];unfold World.cell?;rw[A.heap _ C]
  grind[DataW.weights,lits,reachBytes]
def oT {t e:TypeId} {v:Value} {d:DataW H} {p:List MemPlace} (j:P.underlying t=some (.slice e)) (n:P.underlying e=some (.int .i64)) (o:P.cellsOf e=1) (hb:P.bytesOf e=8)
  {r:Reach} {y:Nat} (m:Value.okWide P W r y t v) (h:DataW.Trod enc P W 0 (λ_=>true) true t v d p) :
  ∃i:Ϛ,V (AZ.bare λb _=>b<W.heap.size) W (.pv (.list (Ai i))) v /\
   (∀k,Still W k->∀l:Nat->Bool,(∀x∈p,l x.block=true)->DataW.Trod enc P k 0 l true t v d p) /\
   ((d.weights P t).all (·<=reachBytes)=true->i.length<2 ^ 44):=by
 obtain⟨a,len,I,rfl⟩:=okWide_slice j m;obtain⟨s,hf⟩:=h;have u:=hf;rcases open_ints j n o hf with ⟨f,hx⟩|⟨M,C,D,i,f,_,N,hm,z,hx,B,K⟩
 .simp only[Value.cells,PT,Value.slice.injEq,L1] at f
  obtain⟨rfl,rfl,rfl⟩:=f;refine⟨[],AEr,λk _ l _=>?_,λ_=>by simp⟩;simp only[Bg] at hx;obtain⟨rfl,rfl⟩:=hx;refine⟨1,?_⟩;simp[*,DataW.trod_step,DataW.trodStep,Value.cells]
 .have⟨L,O,A,_⟩:=yp j n o hb m ⟨s,u⟩
  simp only[Value.cells,PT,Value.slice.injEq,L1] at f;obtain⟨rfl,rfl,rfl⟩:=f;simp only[HA] at z;simp only[Bg] at hx;obtain⟨rfl,rfl⟩:=hx;have E:(i.take len).length=len:=AB;refine⟨i.take len,?_,A,λQ=>?_⟩
  all_goals grind[ym,DataW.weights,lits,reachBytes]
def ko {t:TypeId} {v:Value} {d:DataW H} {p:List MemPlace} (k:P.underlying t=some (.int .i64)) {r:Reach} {e:Nat} (j:Value.okWide P W r e t v) (h:DataW.Trod enc P W 0 (λ_=>true) true t v d p) :
  ∃n:Int,v=.int .i64 n/\V (AZ.bare λb _=>b<W.heap.size) W (AG n) v/\(Lit.int .i64 n).wf=true /\
   (∀f,∀i:Nat->Bool,DataW.Trod enc P f 0 i true t v d p):=by grind[open_int,AVM,shut_int]
end
end Go.Tel
