/-
  Calls from a world whose arguments are slices of integers and strings.
-/
import Derived.Test.YtpgfpakdnijngaaGreatDoorWvD
import Derived.ChangeSlices
set_option linter.all false
namespace Go.Tel
open Go.ChangeShapes Go.WideShapes
theorem ZY {E:Env} (hG:Good E) {f:FuncId} {args:List AV} {vs:List Value} {u:Value} {s':AM} {W:World} (hW:jg E W) (hargs:VL (AI.bare λb _=>b<W.heap.size) W args vs) (h:A8 E L0 f args ⟨[],[]⟩ (.pv (.sc u)) s') :
  Calls E.P f vs.toArray W λe w'=>e=.returned u/\Still W w':=by
 obtain⟨n,hn⟩:=h;refine((Qr hG n L0 f _ _ _ _ _ _ _ (hn n (AN n)) hW.inv hargs).2).mono ?_;rintro e w' ⟨v',g',rfl,hv,hx,_⟩;refine⟨by rw[hv.Cx],hx.os,hx.output,λb hb=>(hx.out b hb (λ_ e=>by simp[AI.bare] at e) (λ_ _ e=>by simp[AI.bare] at e) (λ_ e=>by simp[AI.bare] at e)).1⟩
theorem AHS {g:AI} {w:World}:V g w (.pv (.list (AY []))) (.slice none 0 0):=
 .pv (VP.Ik (rows:=[]) (b:=0) (o:=0) (sz:=0) (f:=λ_ _=>undef) D5.nil (AN 0))
theorem AAz {W:World} {a:Addr} {cap:Nat} {zs:List Int} (hcap:zs.length<=cap) (hcell:∀i,i<zs.length->W.cell? (a.add i)=some (.int .i64 (zs.getD i 0))) :
  V (AI.bare λb _=>b<W.heap.size) W (.pv (.list (AY zs))) (.slice (some a) zs.length cap):=by
 obtain⟨b,off,spot⟩:=a
 have ji:zs≠[]->spot=none:=λhne=>by
  cases hz:zs with
  | nil=>grind
  | cons z0 z=>simpa[Addr.add] using World.cell?_spot (hcell 0 (by grind))
 have get:∀i z,zs[i]?=some z->W.cell? ⟨b,off+i,none⟩=some (.int .i64 z):=λi z hs=>by
  have hsp:=ji (λe=>by grind)
  grind[DH]
 have:=VP.Ik (I:=λb _=>b<W.heap.size) (w:=W) (rows:=AY zs) (base:=some ⟨b,off,spot⟩) (b:=b) (o:=off) (sz:=1) (f:=λi _=>.int .i64 (zs.getD i 0)) (cap:=cap)
  ⟨λrow hr=>by
    obtain⟨s,_,rfl⟩:=Cp.1 hr;rfl,
   λhne _=>by simp_all[AY],
   λi row j c hr hj=>by
    simp only[AY,FJ] at hr;cases hs:zs[i]? with
    | none=>grind
    | some s=>
     simp[hs] at hr; subst hr;have hj0:j=0:=by grind
     subst hj0;have HM:=get i s hs;refine⟨HY HM,?_⟩
     grind,
   λi row j c hr hj=>by
    simp only[AY,FJ] at hr;cases hs:zs[i]? with
    | none=>grind
    | some s=>
     simp[hs] at hr; subst hr;have hj0:j=0:=by grind
     subst hj0;simp at hj; subst hj;simp only[List.getD,hs,Ie];exact .sc _⟩ (by grind[AY])
 rw[CS] at this;exact .pv this
end Go.Tel
