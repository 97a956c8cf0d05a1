/-
  What the points of some functions' code need: written by a program (wip/tel/GenW.lean.txt).
-/
import Derived.Test.YtmipbilokjkjiaaGreatDoorTab
import Derived.Test.YtmipbilokjkjiaaGreatDoorWvF
set_option linter.unusedSimpArgs false
set_option linter.unusedVariables false
namespace Go.Proofs.YtmipbilokjkjiaaGreatDoor
open Go.Tel
/-! 61: slices.Clone[[]string,string] -/
noncomputable def b61 : Code := Tryz.f61.body.getD .skip
def lv61 (f : Nat) : List Nat := bif Nat.blt f 2 then (
 bif Nat.beq f 1 then [0] else []) else (
 bif Nat.blt f 3 then (
  bif Nat.beq f 2 then [0,4] else []) else (
  bif Nat.beq f 3 then [0] else []))
def ct61 (f : Nat) : Bool := false
def P61_0 (R : RT) (n0 ro rt : Nat) (t0 : AV) (s : Sto) (QR : QT) : Prop := Wp (env R) (LFE (env R) 61 n0 ro rt) 8 [.tmp 2] (sub b61 []) [] [(0,t0)] s QR
def P61_1 (R : RT) (n0 ro rt : Nat) (t0 : AV) (s : Sto) (QR : QT) : Prop := Wp (env R) (LFE (env R) 61 n0 ro rt) 8 [.tmp 2] (sub b61 [1,1]) [] [(0,t0)] s QR
theorem p61_0 {R : RT} {n0 ro rt : Nat} {t0 : AV} {s : Sto} {QR : QT} (h :
 wNeN s (some 1) (nilV t0) (some 1) .eql t0 (.capped []) fun a4 =>
 wCond a4 (
 QR (.capped []) s) (
 P61_1 R n0 ro rt t0 s QR)) : P61_0 R n0 ro rt t0 s QR :=
  wpc_mp (lv := lv61) (ct := ct61) _ _ _ _ h (by kernel_rfl)
theorem p61_1 {R : RT} {n0 ro rt : Nat} {t0 : AV} {s : Sto} {QR : QT} (h :
 wBsl false s 1 [(SS [])] 0 [] fun a5 s1x0 =>
(1 = 1 ∧ 1 ≠ 0) ∧ wApp false (LFE (env R) 61 n0 ro rt) s1x0 9 1 16 a5 t0 fun a7 s1x1 =>
 QR a7 s1x1) : P61_1 R n0 ro rt t0 s QR :=
  wpc_mp (lv := lv61) (ct := ct61) _ _ _ _ h (by kernel_rfl)
end Go.Proofs.YtmipbilokjkjiaaGreatDoor
