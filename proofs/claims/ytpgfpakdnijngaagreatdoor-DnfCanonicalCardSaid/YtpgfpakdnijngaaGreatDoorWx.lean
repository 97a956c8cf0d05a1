/-
  Short forms of what points of code need.
-/
import Derived.Test.YtpgfpakdnijngaaGreatDoorTab
import Derived.Test.YtpgfpakdnijngaaGreatDoorWvF
set_option linter.all false
namespace Go.Proofs.YtpgfpakdnijngaaGreatDoor
open Go.Tel
noncomputable section
abbrev xL (R:RT) (s:AM) (a:AV) (K:AV->Prop):Prop:=EG (env R) s none a K
abbrev xM (R:RT) (s:AM) (k:Nat) (a:AV) (K:AV->Prop):Prop:=EG (env R) s (some k) a K
abbrev xF (R:RT) (s:AM) (a:AV) (d:Nat) (K:AV->Prop):Prop:=BD s a d λb=>EG (env R) s none b K
abbrev xG (R:RT) (s:AM) (a:AV) (d k:Nat) (K:AV->Prop):Prop:=BD s a d λb=>EG (env R) s (some k) b K
abbrev xI (o:BinOp) (a b:AV) (K:AV->Prop):Prop:=Cb .i64 o a b K
abbrev lf (R:RT) (f n0 ro rt:Nat):A3:=Cu (env R) f n0 ro rt
abbrev xC (R:RT) (f n0 ro rt g:Nat) (l:List AV) (s:AM) (K:AV->AM->Prop):Prop:=EK (env R) (Cu (env R) f n0 ro rt) (.func (.func g) [] []) l s K
abbrev g0 (a:AV) (b:Bool) (s:AM) (x:AV) (K:AV->AM->Prop):Prop:=Hs a b s (λQ=>Q x s) K
abbrev g1 (a:AV) (b:Bool) (s:AM) (W:(AV->Prop)->Prop) (K:AV->AM->Prop):Prop:=Hs a b s (λQ=>W λy=>Q y s) K
abbrev Y4:List AV:=[AA 0,SS [],AA 0,.AB []]
abbrev Y5:List AV:=[.AB [],AA 0,SS [],AA 0,.AB []]
def pth (n:Nat):List Nat:=Nat.rec (λ_ l=>l) (λ_ h n l=>bif Nat.ble n 1 then l else h (Nat.div n 2) (Nat.mod n 2::l)) 64 n []
def aG (l:List Nat):Code->List Tel.Frame->Code×List Tel.Frame:=List.rec (λc k=>(c,k)) (λi _ h c k=>match c with
 | .seq a b=>Nat.rec (h a (.seq b::k)) (λ_ _=>h b k) i
 | .cond _ a b=>Nat.rec (h a k) (λ_ _=>h b k) i
 | .block j b=>h b (.blk j::k)
 | .loop b=>h b (.loop b::k)
 | _=>(c,k)) l
def aT (c:Code) (n:Nat):Code×List Tel.Frame:=aG (pth n) c []
abbrev Wq (R:RT) (n0 ro rt f nt:Nat) (rs:List ResultVar) (p:Code×List Tel.Frame) (en:En):AM->QT->Prop:=λs Q=>Wp (env R) (Cu (env R) f n0 ro rt) nt rs p.1 p.2 en s Q
abbrev Wqr (R:RT) (n0 ro rt f nt:Nat) (rs:List ResultVar) (c:Code) (ks:List Tel.Frame) (en:En):AM->QT->Prop:=λs Q=>Wp (env R) (Cu (env R) f n0 ro rt) nt rs c ks en s Q
def ln (l:List (List Nat)):Nat->List Nat:=List.rec (λ_=>[]) (λa _ ih n=>Nat.rec a (λm _=>ih m) n) l
section
variable {E:Env} {L:A3} {n:Nat} {rs:List ResultVar} {Q:AV->AM->Prop} {A:Prop} {c:Code} {ks:List Tel.Frame} {en:En} {s:AM}
theorem pC (lv:Nat->List Nat) (ct:Nat->Bool) (h:A) (e:A=wpc E L n lv ct rs Q c ks en s:=by kernel_rfl):Wp E L n rs c ks en s Q:=ALQ c ks en s h e
theorem pL (lv:Nat->List Nat) (ct:Nat->Bool) (h:A) (e:A=wpc E L n lv ct rs Q c (.loop c::ks) en s:=by kernel_rfl):Wp E L n rs (.loop c) ks en s Q:=ALR c ks en s h e
end
abbrev sn (c:Code) (n:Nat):Code:=sub c (pth n)
section
variable {E:Env} {s:AM} {P:AV->Prop} {P2:AV->AM->Prop} {L:A3} {f:FuncId} {fn:Func} {l l2:List AV} {A:Prop}
theorem hR (F:E.P.funcs[f]?=some fn) (h0:AU [] 0 0 l=some l2) (h:A) (e:(fn.body.isSome,E.kind f,E.clone f,Nat.ble l.length fn.ntmps,A)=(true,.rd,false,true,Wp E (Cu E f 0 0 0) fn.ntmps fn.results.toList (fn.body.getD .skip) [] (Fo 0 l2) ⟨[],[]⟩ (QP P)):=by kernel_rfl):AL E f l P:=by
 simp only[A4] at e;obtain⟨e1,e2,e3,e4,e5⟩:=e;obtain⟨b,e1⟩:=MX.1 e1;rw[e1] at e5;exact ADQ (body:=b) F e1 e2 e3 (Cr e4) h0 (mP h e5)
theorem hI (F:E.P.funcs[f]?=some fn) (h0:AU [] 0 0 l=none) (h:A) (e:(fn.body.isSome,E.kind f,E.clone f,Nat.ble l.length fn.ntmps,A)=(true,.rd,false,true,Wp E (Cu E f s.bs.length s.bs.length s.ts.length) fn.ntmps fn.results.toList (fn.body.getD .skip) [] (Fo 0 l) s (QI s.bs.length s.ts.length P)):=by kernel_rfl):∃v,P v/\∀L,A8 E L f l s v s:=by
 simp only[A4] at e;obtain⟨e1,e2,e3,e4,e5⟩:=e;obtain⟨b,e1⟩:=MX.1 e1;rw[e1] at e5;exact AAy (body:=b) F e1 e2 e3 (Cr e4) h0 (mP h e5)
theorem hE (F:E.P.funcs[f]?=some fn) (h:A) (e:(fn.body.isSome,E.kind f,E.clone f,Nat.ble l.length fn.ntmps,A)=(true,.esc,false,true,Wp E (Cu E f L.n0 L.ro L.rt) fn.ntmps fn.results.toList (fn.body.getD .skip) [] (Fo 0 l) s P2):=by kernel_rfl):∃v s',P2 v s'/\A8 E L f l s v s':=by
 simp only[A4] at e;obtain⟨e1,e2,e3,e4,e5⟩:=e;obtain⟨b,e1⟩:=MX.1 e1;rw[e1] at e5;exact AAx (body:=b) F e1 e2 e3 (Cr e4) (mP h e5)
theorem hM (F:E.P.funcs[f]?=some fn) (h0:Bb l=false) (h:A) (e:(fn.body.isSome,E.kind f,E.clone f,Nat.ble l.length fn.ntmps,A)=(true,.im,false,true,Wp E (Cu E f 0 L.ro L.rt) fn.ntmps fn.results.toList (fn.body.getD .skip) [] (Fo 0 l) s (QM (L.rr f) s.bs.length P2)):=by kernel_rfl):∃v s',P2 v s'/\A8 E L f l s v s':=by
 simp only[A4] at e;obtain⟨e1,e2,e3,e4,e5⟩:=e;obtain⟨b,e1⟩:=MX.1 e1;rw[e1] at e5;exact ADR (body:=b) F e1 e2 e3 (Cr e4) h0 (mP h e5)
end
end
end Go.Proofs.YtpgfpakdnijngaaGreatDoor
