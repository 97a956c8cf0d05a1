/-
  Calls from a world whose arguments are slices of integers and strings.
-/
import Derived.Test.YtpgfpakdnijngaaGreatDoorWvD
import Derived.ChangeSlices
set_option linter.all false
namespace Go.Tel
open Go.ChangeShapes Go.WideShapes
theorem bL {E:Env} (hG:Good E) {f:FuncId} {args:List AV} {vs:List Value} {u:Value} {s':AQ} {W:World} (hW:kU E W) (hargs:VL (AP.bare λb _=>b<W.heap.size) W args vs) (h:BW E L0 f args ⟨[],[]⟩ (.pv (.sc u)) s') :
  Calls E.P f vs.toArray W λe w'=>e=.returned u/\Still W w':=by
 obtain⟨n,hn⟩:=h;refine((Rn hG n L0 f _ _ _ _ _ _ _ (hn n (AY n)) hW.inv hargs).2).mono ?_;rintro e w' ⟨v',g',rfl,hv,hx,_⟩;refine⟨by rw[hv.DC],hx.os,hx.output,λb hb=>(hx.out b hb (λ_ e=>by simp[AP.bare] at e) (λ_ _ e=>by simp[AP.bare] at e) (λ_ e=>by simp[AP.bare] at e)).1⟩
theorem AVy {g:AP} {w:World} (n:Int):V g w (AG n) (.int .i64 n):=.pv (.sc _)
theorem AFa {g:AP} {w:World}:V g w (.pv (.list (Ab []))) (.slice none 0 0):=
 .pv (VP.JH (rows:=[]) (b:=0) (o:=0) (sz:=0) (f:=λ_ _=>undef) ES.nil (AY 0))
theorem zn {W:World} {a:Addr} {cap:Nat} {zs:List Int} (hcap:zs.length<=cap) (hcell:∀i,i<zs.length->W.cell? (a.add i)=some (.int .i64 (zs.getD i 0))) :
  V (AP.bare λb _=>b<W.heap.size) W (.pv (.list (Ab zs))) (.slice (some a) zs.length cap):=by
 obtain⟨b,off,spot⟩:=a
 have kW:zs≠[]->spot=none:=λhne=>by
  cases hz:zs with
  | nil=>grind
  | cons z0 z=>simpa[Addr.add] using World.cell?_spot (hcell 0 AB)
 have get:∀i z,zs[i]?=some z->W.cell? ⟨b,off+i,none⟩=some (.int .i64 z):=λi z hs=>by
  have hsp:=kW (λe=>by grind)
  grind[DQ]
 have:=VP.JH (I:=λb _=>b<W.heap.size) (w:=W) (rows:=Ab zs) (base:=some ⟨b,off,spot⟩) (b:=b) (o:=off) (sz:=1) (f:=λi _=>.int .i64 (zs.getD i 0)) (cap:=cap)
  ⟨λrow hr=>by
    obtain⟨s,_,rfl⟩:=CR.1 hr;rfl,
   λhne _=>by simp_all[Ab],
   λi row j c hr hj=>by
    simp only[Ab,FJ] at hr;cases hs:zs[i]? with
    | none=>grind
    | some s=>
     simp[hs] at hr; subst hr;have hj0:j=0:=AB;subst hj0;have K7:=get i s hs;refine⟨H8 K7,?_⟩
     grind,
   λi row j c hr hj=>by
    simp only[Ab,FJ] at hr;cases hs:zs[i]? with
    | none=>grind
    | some s=>
     simp[hs] at hr; subst hr;have hj0:j=0:=AB;subst hj0;simp at hj; subst hj;simp only[List.getD,hs,II];exact .sc _⟩ (by grind[Ab])
 rw[BF] at this;exact .pv this
end Go.Tel
