/-
  Calls from a world whose arguments are slices of integers and strings.
-/
import Derived.Test.YtpgfpakdnijngaaGreatDoorWvD
import Derived.ChangeSlices
set_option linter.all false
namespace Go.Tel
open Go.ChangeShapes Go.WideShapes
def ak {E:Env} (i:Good E) {f:FuncId} {args:Ϭ} {vs:List Value} {u:Value} {j:AY} {W:World} (k:lD E W) (d:VL (AZ.bare λb _=>b<W.heap.size) W args vs) (h:Bk E L0 f args ⟨[],[]⟩ (.pv (.sc u)) j) :
  Calls E.P f vs.toArray W λe w'=>e=.returned u/\Still W w':=by
 obtain⟨n,hn⟩:=h;refine((R1 i n L0 f _ _ _ _ _ _ _ (hn n (AU n)) k.inv d).2).mono ?_;rintro e w' ⟨m,o,rfl,l,hx,_⟩;refine⟨by rw[l.DX],hx.os,hx.output,λb hb=>(hx.out b hb (λ_ e=>by simp[AZ.bare] at e) (λ_ _ e=>by simp[AZ.bare] at e) (λ_ e=>by simp[AZ.bare] at e)).1⟩
theorem AVM {g:AZ} {w:World} (n:Int):V g w (AG n) (.int .i64 n):=.pv (.sc _)
def AEr {g:AZ} {w:World}:V g w (.pv (.list (Ai []))) (.slice none 0 0):=
 .pv (VP.Ja (rows:=[]) (b:=0) (o:=0) (sz:=0) (f:=λ_ _=>undef) Em.nil (AU 0))
theorem ym {W:World} {a:Addr} {cap:Nat} {d:Ϛ} (B:d.length<=cap) (u:∀i,i<d.length->W.cell? (a.add i)=some (.int .i64 (d.getD i 0))) :
  V (AZ.bare λb _=>b<W.heap.size) W (.pv (.list (Ai d))) (.slice (some a) d.length cap):=by
 obtain⟨b,m,r⟩:=a
 have x:d≠[]->r=none:=λy=>by
  cases D:d with
  | nil=>grind
  | cons E z=>simpa[Addr.add] using World.cell?_spot (u 0 AB)
 have get:∀i z,d[i]?=some z->W.cell? ⟨b,m+i,none⟩=some (.int .i64 z):=λi z l=>by
  have C:=x (λe=>by grind)
  grind[Dl]
 have:=VP.Ja (I:=λb _=>b<W.heap.size) (w:=W) (rows:=Ai d) (base:=some ⟨b,m,r⟩) (b:=b) (o:=m) (sz:=1) (f:=λi _=>.int .i64 (d.getD i 0)) (cap:=cap)
  ⟨λt k=>by
    obtain⟨s,_,rfl⟩:=Cw.1 k;rfl,
   λy _=>by simp_all[Ai],
   λi t j c k p=>by
    simp only[Ai,E8] at k;cases l:d[i]? with
    | none=>grind
    | some s=>
     simp[l] at k; subst k;have n:j=0:=AB;subst n;have A:=get i s l;refine⟨IM A,?_⟩
     grind,
   λi t j c k p=>by
    simp only[Ai,E8] at k;cases l:d[i]? with
    | none=>grind
    | some s=>
     simp[l] at k; subst k;have n:j=0:=AB;subst n;simp at p; subst p;simp only[List.getD,l,JR];exact .sc _⟩ (by grind[Ai])
 rw[BP] at this;exact .pv this
end Go.Tel
