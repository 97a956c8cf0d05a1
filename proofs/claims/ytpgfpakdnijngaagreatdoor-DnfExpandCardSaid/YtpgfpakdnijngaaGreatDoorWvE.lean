/-
  Calls from a world whose arguments are slices of integers and strings.
-/
import Derived.Test.YtpgfpakdnijngaaGreatDoorWvD
import Derived.ChangeSlices
set_option linter.all false
namespace Go.Tel
open Go.ChangeShapes Go.WideShapes
theorem Zi {E:Env} (hG:Good E) {f:FuncId} {args:List AV} {vs:List Value} {u:Value} {s':AM} {W:World} (hW:ja E W) (hargs:VL (AH.bare λb _=>b<W.heap.size) W args vs) (h:BD E L0 f args ⟨[],[]⟩ (.pv (.sc u)) s') :
  Calls E.P f vs.toArray W λe w'=>e=.returned u/\Still W w':=by
 obtain⟨n,hn⟩:=h;refine((Qd hG n L0 f _ _ _ _ _ _ _ (hn n (Aa n)) hW.inv hargs).2).mono ?_;rintro e w' ⟨v',g',rfl,hv,hx,_⟩;refine⟨by rw[hv.C2],hx.os,hx.output,λb hb=>(hx.out b hb (λ_ e=>by simp[AH.bare] at e) (λ_ _ e=>by simp[AH.bare] at e) (λ_ e=>by simp[AH.bare] at e)).1⟩
theorem AUZ {g:AH} {w:World} (n:Int):V g w (AA n) (.int .i64 n):=.pv (.sc _)
theorem AIh {g:AH} {w:World}:V g w (.pv (.list (AX []))) (.slice none 0 0):=
 .pv (VP.Il (rows:=[]) (b:=0) (o:=0) (sz:=0) (f:=λ_ _=>undef) ED.nil (Aa 0))
theorem ABj {W:World} {a:Addr} {cap:Nat} {zs:List Int} (hcap:zs.length<=cap) (hcell:∀i,i<zs.length->W.cell? (a.add i)=some (.int .i64 (zs.getD i 0))) :
  V (AH.bare λb _=>b<W.heap.size) W (.pv (.list (AX zs))) (.slice (some a) zs.length cap):=by
 obtain⟨b,off,spot⟩:=a
 have jc:zs≠[]->spot=none:=λhne=>by
  cases hz:zs with
  | nil=>grind
  | cons z0 z=>simpa[Addr.add] using World.cell?_spot (hcell 0 (by grind))
 have get:∀i z,zs[i]?=some z->W.cell? ⟨b,off+i,none⟩=some (.int .i64 z):=λi z hs=>by
  have hsp:=jc (λe=>by grind)
  grind[DI]
 have:=VP.Il (I:=λb _=>b<W.heap.size) (w:=W) (rows:=AX zs) (base:=some ⟨b,off,spot⟩) (b:=b) (o:=off) (sz:=1) (f:=λi _=>.int .i64 (zs.getD i 0)) (cap:=cap)
  ⟨λrow hr=>by
    obtain⟨s,_,rfl⟩:=C0.1 hr;rfl,
   λhne _=>by simp_all[AX],
   λi row j c hr hj=>by
    simp only[AX,Fy] at hr;cases hs:zs[i]? with
    | none=>grind
    | some s=>
     simp[hs] at hr; subst hr;have hj0:j=0:=by grind
     subst hj0;have KQ:=get i s hs;refine⟨HY KQ,?_⟩
     grind,
   λi row j c hr hj=>by
    simp only[AX,Fy] at hr;cases hs:zs[i]? with
    | none=>grind
    | some s=>
     simp[hs] at hr; subst hr;have hj0:j=0:=by grind
     subst hj0;simp at hj; subst hj;simp only[List.getD,hs,Ic];exact .sc _⟩ (by grind[AX])
 rw[BV] at this;exact .pv this
end Go.Tel
