/-
  Short forms of what points of code need.
-/
import Derived.Test.YtpgfpakdnijngaaGreatDoorTab
import Derived.Test.YtpgfpakdnijngaaGreatDoorWvF
set_option linter.unusedVariables false
namespace Go.Proofs.YtpgfpakdnijngaaGreatDoor
open Go.Tel
noncomputable section
abbrev xL (R:RT) (s:AK) (a:AV) (K:AV->Prop):Prop:=FA (env R) s none a K
abbrev xM (R:RT) (s:AK) (k:Nat) (a:AV) (K:AV->Prop):Prop:=FA (env R) s (some k) a K
abbrev xF (R:RT) (s:AK) (a:AV) (d:Nat) (K:AV->Prop):Prop:=Bo s a d fun b=>FA (env R) s none b K
abbrev xG (R:RT) (s:AK) (a:AV) (d k:Nat) (K:AV->Prop):Prop:=Bo s a d fun b=>FA (env R) s (some k) b K
abbrev xI (o:BinOp) (a b:AV) (K:AV->Prop):Prop:=Dx .i64 o a b K
abbrev lf (R:RT) (f n0 ro rt:Nat):A0:=Ca (env R) f n0 ro rt
abbrev xC (R:RT) (f n0 ro rt g:Nat) (l:List AV) (s:AK) (K:AV->AK->Prop):Prop:=Fe (env R) (Ca (env R) f n0 ro rt) (.func (.func g) [] []) l s K
abbrev g0 (a:AV) (b:Bool) (s:AK) (x:AV) (K:AV->AK->Prop):Prop:=KX a b s (fun Q=>Q x s) K
abbrev g1 (a:AV) (b:Bool) (s:AK) (W:(AV->Prop)->Prop) (K:AV->AK->Prop):Prop:=KX a b s (fun Q=>W fun y=>Q y s) K
abbrev Y4:List AV:=[AD 0,SS [],AD 0,.AA []]
abbrev Y5:List AV:=[.AA [],AD 0,SS [],AD 0,.AA []]
abbrev Wq (R:RT) (n0 ro rt f nt:Nat) (rs:List ResultVar) (c:Code) (ks:List Tel.Frame) (en:En):AK->QT->Prop:=fun s Q=>Wp (env R) (Ca (env R) f n0 ro rt) nt rs c ks en s Q
def ln (l:List (List Nat)):Nat->List Nat:=List.rec (fun _=>[]) (fun a _ ih n=>Nat.rec a (fun m _=>ih m) n) l
section
variable {E:Env} {L:A0} {n:Nat} {rs:List ResultVar} {Q:AV->AK->Prop} {A:Prop} {c:Code} {ks:List Tel.Frame} {en:En} {s:AK}
theorem pC (lv:Nat->List Nat) (ct:Nat->Bool) (h:A) (e:A=wpc E L n lv ct rs Q c ks en s):Wp E L n rs c ks en s Q:=AGj c ks en s h e
theorem pL (lv:Nat->List Nat) (ct:Nat->Bool) (h:A) (e:A=wpc E L n lv ct rs Q c (.loop c::ks) en s):Wp E L n rs (.loop c) ks en s Q:=AGk c ks en s h e
end
def pth (n:Nat):List Nat:=Nat.rec (fun _ l=>l) (fun _ h n l=>bif Nat.ble n 1 then l else h (Nat.div n 2) (Nat.mod n 2::l)) 64 n []
abbrev sn (c:Code) (n:Nat):Code:=sub c (pth n)
section
variable {R:RT} {s:AK} {P:AV->Prop} {P2:AV->AK->Prop} {L:A0} {f:FuncId} {fn:Func} {l l2:List AV} {A:Prop}
theorem hR (F:Tryz.prog.funcs[f]?=some fn) (e:(fn.body.isSome,(env R).kind f,(env R).clone f,Nat.ble l.length fn.ntmps,A)=(true,.rd,false,true,Wp (env R) (Ca (env R) f 0 0 0) fn.ntmps fn.results.toList (fn.body.getD .skip) [] (FZ 0 l2) ⟨[],[]⟩ (QP P))) (h0:AN [] 0 0 l=some l2) (h:A):AW (env R) f l P:=by
 simp only[Af] at e;obtain⟨e1,e2,e3,e4,e5⟩:=e;obtain⟨b,e1⟩:=Mp.1 e1;rw[e1] at e5;exact AAN (body:=b) F e1 e2 e3 (Cm e4) h0 (nZ h e5)
theorem hI (F:Tryz.prog.funcs[f]?=some fn) (e:(fn.body.isSome,(env R).kind f,(env R).clone f,Nat.ble l.length fn.ntmps,A)=(true,.rd,false,true,Wp (env R) (Ca (env R) f s.bs.length s.bs.length s.ts.length) fn.ntmps fn.results.toList (fn.body.getD .skip) [] (FZ 0 l) s (QI s.bs.length s.ts.length P))) (h0:AN [] 0 0 l=none) (h:A):∃ v,P v/\∀ L,BC (env R) L f l s v s:=by
 simp only[Af] at e;obtain⟨e1,e2,e3,e4,e5⟩:=e;obtain⟨b,e1⟩:=Mp.1 e1;rw[e1] at e5;exact wK (body:=b) F e1 e2 e3 (Cm e4) h0 (nZ h e5)
theorem hE (F:Tryz.prog.funcs[f]?=some fn) (e:(fn.body.isSome,(env R).kind f,(env R).clone f,Nat.ble l.length fn.ntmps,A)=(true,.esc,false,true,Wp (env R) (Ca (env R) f L.n0 L.ro L.rt) fn.ntmps fn.results.toList (fn.body.getD .skip) [] (FZ 0 l) s P2)) (h:A):∃ v s',P2 v s'/\BC (env R) L f l s v s':=by
 simp only[Af] at e;obtain⟨e1,e2,e3,e4,e5⟩:=e;obtain⟨b,e1⟩:=Mp.1 e1;rw[e1] at e5;exact wJ (body:=b) F e1 e2 e3 (Cm e4) (nZ h e5)
theorem hM (F:Tryz.prog.funcs[f]?=some fn) (e:(fn.body.isSome,(env R).kind f,(env R).clone f,Nat.ble l.length fn.ntmps,A)=(true,.im,false,true,Wp (env R) (Ca (env R) f 0 L.ro L.rt) fn.ntmps fn.results.toList (fn.body.getD .skip) [] (FZ 0 l) s (QM (L.rr f) s.bs.length P2))) (h0:BN l=false) (h:A):∃ v s',P2 v s'/\BC (env R) L f l s v s':=by
 simp only[Af] at e;obtain⟨e1,e2,e3,e4,e5⟩:=e;obtain⟨b,e1⟩:=Mp.1 e1;rw[e1] at e5;exact AAO (body:=b) F e1 e2 e3 (Cm e4) h0 (nZ h e5)
end
end
end Go.Proofs.YtpgfpakdnijngaaGreatDoor
