/-
  Short forms of what points of code need.
-/
import Derived.Test.YtmipbilokjkjiaaGreatDoorTab
import Derived.Test.YtmipbilokjkjiaaGreatDoorWvF
import Derived.Test.YtmipbilokjkjiaaGreatDoorWpH
set_option linter.unusedVariables false
namespace Go.Proofs.YtmipbilokjkjiaaGreatDoor
open Go.Tel
noncomputable section
abbrev xL (R : RT) (s : Sto) (a : AV) (K : AV → Prop) : Prop := wLd (env R) s none a K
abbrev xM (R : RT) (s : Sto) (k : Nat) (a : AV) (K : AV → Prop) : Prop := wLd (env R) s (some k) a K
abbrev xF (R : RT) (s : Sto) (a : AV) (d : Nat) (K : AV → Prop) : Prop := wFad s a d fun b => wLd (env R) s none b K
abbrev xG (R : RT) (s : Sto) (a : AV) (d k : Nat) (K : AV → Prop) : Prop := wFad s a d fun b => wLd (env R) s (some k) b K
abbrev xI (o : BinOp) (a b : AV) (K : AV → Prop) : Prop := wInt .i64 o a b K
abbrev lf (R : RT) (f n0 ro rt : Nat) : Lim := LFE (env R) f n0 ro rt
abbrev xC (R : RT) (f n0 ro rt g : Nat) (l : List AV) (s : Sto) (K : AV → Sto → Prop) : Prop := wCall (env R) (LFE (env R) f n0 ro rt) (.func (.func g) [] []) l s K
abbrev g0 (a : AV) (b : Bool) (s : Sto) (x : AV) (K : AV → Sto → Prop) : Prop := wGK a b s (fun Q => Q x s) K
abbrev g1 (a : AV) (b : Bool) (s : Sto) (W : (AV → Prop) → Prop) (K : AV → Sto → Prop) : Prop := wGK a b s (fun Q => W fun y => Q y s) K
abbrev Y4 : List AV := [I64 0, SS [], I64 0, .capped []]
abbrev Y5 : List AV := [.capped [], I64 0, SS [], I64 0, .capped []]
def pth (n : Nat) : List Nat := Nat.rec (fun _ l => l) (fun _ h n l => bif Nat.ble n 1 then l else h (Nat.div n 2) (Nat.mod n 2::l)) 64 n []
def aG (l : List Nat) : Code → List Tel.Frame → Code × List Tel.Frame := List.rec (fun c k => (c, k)) (fun i _ h c k => match c with
  | .seq a b => Nat.rec (h a (.seq b :: k)) (fun _ _ => h b k) i
  | .cond _ a b => Nat.rec (h a k) (fun _ _ => h b k) i
  | .block j b => h b (.blk j :: k)
  | .loop b => h b (.loop b :: k)
  | _ => (c, k)) l
def aT (c : Code) (n : Nat) : Code × List Tel.Frame := aG (pth n) c []
abbrev Wq (R : RT) (n0 ro rt f nt : Nat) (rs : List ResultVar) (p : Code × List Tel.Frame) (en : En) : Sto → QT → Prop := fun s Q => Wp (env R) (LFE (env R) f n0 ro rt) nt rs p.1 p.2 en s Q
abbrev Wqr (R : RT) (n0 ro rt f nt : Nat) (rs : List ResultVar) (c : Code) (ks : List Tel.Frame) (en : En) : Sto → QT → Prop := fun s Q => Wp (env R) (LFE (env R) f n0 ro rt) nt rs c ks en s Q
def ln (l : List (List Nat)) : Nat → List Nat := List.rec (fun _ => []) (fun a _ ih n => Nat.rec a (fun m _ => ih m) n) l
section
variable {E : Env} {L : Lim} {n : Nat} {rs : List ResultVar} {Q : AV → Sto → Prop} {A : Prop} {c : Code} {ks : List Tel.Frame} {en : En} {s : Sto}
theorem pC (lv : Nat → List Nat) (ct : Nat → Bool) (h : A) (e : A = wpc E L n lv ct rs Q c ks en s := by kernel_rfl) : Wp E L n rs c ks en s Q := wpc_mp c ks en s h e
theorem pL (lv : Nat → List Nat) (ct : Nat → Bool) (h : A) (e : A = wpc E L n lv ct rs Q c (.loop c :: ks) en s := by kernel_rfl) : Wp E L n rs (.loop c) ks en s Q := wpl_mp c ks en s h e
end
abbrev sn (c : Code) (n : Nat) : Code := sub c (pth n)
section
variable {E : Env} {s : Sto} {P : AV → Prop} {P2 : AV → Sto → Prop} {L : Lim} {f : FuncId} {fn : Func} {l l2 : List AV} {A : Prop}
theorem hR (F : E.P.funcs[f]? = some fn) (h0 : closeL [] 0 0 l = some l2) (h : A) (e : (fn.body.isSome,E.kind f,E.clone f,Nat.ble l.length fn.ntmps,A) = (true,.rd,false,true,Wp E (LFE E f 0 0 0) fn.ntmps fn.results.toList (fn.body.getD .skip) [] (argEnv 0 l2) ⟨[],[]⟩ (QP P)) := by kernel_rfl) : PureC E f l P := by
  simp only [aLs0003] at e
  obtain ⟨e1, e2, e3, e4, e5⟩ := e
  obtain ⟨b, e1⟩ := aLs0068.1 e1
  rw [e1] at e5
  exact call_rd (body := b) F e1 e2 e3 (aLs0022 e4) h0 (mpK h e5)
theorem hI (F : E.P.funcs[f]? = some fn) (h0 : closeL [] 0 0 l = none) (h : A) (e : (fn.body.isSome,E.kind f,E.clone f,Nat.ble l.length fn.ntmps,A) = (true,.rd,false,true,Wp E (LFE E f s.bs.length s.bs.length s.ts.length) fn.ntmps fn.results.toList (fn.body.getD .skip) [] (argEnv 0 l) s (QI s.bs.length s.ts.length P)) := by kernel_rfl) : ∃ v, P v ∧ ∀ L, CallE E L f l s v s := by
  simp only [aLs0003] at e
  obtain ⟨e1, e2, e3, e4, e5⟩ := e
  obtain ⟨b, e1⟩ := aLs0068.1 e1
  rw [e1] at e5
  exact call_rdI (body := b) F e1 e2 e3 (aLs0022 e4) h0 (mpK h e5)
theorem hE (F : E.P.funcs[f]? = some fn) (h : A) (e : (fn.body.isSome,E.kind f,E.clone f,Nat.ble l.length fn.ntmps,A) = (true,.esc,false,true,Wp E (LFE E f L.n0 L.ro L.rt) fn.ntmps fn.results.toList (fn.body.getD .skip) [] (argEnv 0 l) s P2) := by kernel_rfl) : ∃ v s', P2 v s' ∧ CallE E L f l s v s' := by
  simp only [aLs0003] at e
  obtain ⟨e1, e2, e3, e4, e5⟩ := e
  obtain ⟨b, e1⟩ := aLs0068.1 e1
  rw [e1] at e5
  exact call_esc (body := b) F e1 e2 e3 (aLs0022 e4) (mpK h e5)
theorem hM (F : E.P.funcs[f]? = some fn) (h0 : noIdL l = false) (h : A) (e : (fn.body.isSome,E.kind f,E.clone f,Nat.ble l.length fn.ntmps,A) = (true,.im,false,true,Wp E (LFE E f 0 L.ro L.rt) fn.ntmps fn.results.toList (fn.body.getD .skip) [] (argEnv 0 l) s (QM (L.rr f) s.bs.length P2)) := by kernel_rfl) : ∃ v s', P2 v s' ∧ CallE E L f l s v s' := by
  simp only [aLs0003] at e
  obtain ⟨e1, e2, e3, e4, e5⟩ := e
  obtain ⟨b, e1⟩ := aLs0068.1 e1
  rw [e1] at e5
  exact call_im (body := b) F e1 e2 e3 (aLs0022 e4) h0 (mpK h e5)
end
end
end Go.Proofs.YtmipbilokjkjiaaGreatDoor
