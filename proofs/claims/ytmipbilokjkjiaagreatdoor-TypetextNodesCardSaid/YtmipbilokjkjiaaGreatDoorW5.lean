/-
  What the points of some functions' code need: written by a program (wip/tel/GenW.lean.txt).
-/
import Derived.Test.YtmipbilokjkjiaaGreatDoorTab
import Derived.Test.YtmipbilokjkjiaaGreatDoorWpH
set_option linter.unusedSimpArgs false
set_option linter.unusedVariables false
namespace Go.Proofs.YtmipbilokjkjiaaGreatDoor
open Go.Tel
/-! 97: slices.Backward[[]string,string] -/
noncomputable def b97 : Code := Tryz.f97.body.getD .skip
def lv97 (f : Nat) : List Nat := bif Nat.beq f 1 then [1] else []
def ct97 (f : Nat) : Bool := false
def P97_0 (R : RT) (n0 ro rt : Nat) (t0 : AV) (s : Sto) (QR : QT) : Prop := Wp (env R) (LFE (env R) 97 n0 ro rt) 4 [.tmp 2] (sub b97 []) [] [(0,t0)] s QR
theorem p97_0 {R : RT} {n0 ro rt : Nat} {t0 : AV} {s : Sto} {QR : QT} (h :
 wBox s t0 fun a1 s1x0 =>
 QR (.func (.func 116) [] [a1]) s1x0) : P97_0 R n0 ro rt t0 s QR :=
  wpc_mp (lv := lv97) (ct := ct97) _ _ _ _ h (by kernel_rfl)
theorem m97 {R : RT} {t0 : AV} {L : Lim} {s : Sto} {Post : AV → Sto → Prop} (h : P97_0 R L.n0 L.ro L.rt t0 s Post) : ∃ v s',Post v s' ∧ CallE (env R) L 97 [t0] s v s' :=
  call_esc (fn := Tryz.f97) (body := b97) Tryz.func97 (by kernel_rfl) (by kernel_rfl) (by kernel_rfl) (Nat.le_of_ble_eq_true (by kernel_rfl)) (mpK h (by kernel_rfl))
/-! 72: telpher/typetext.word -/
noncomputable def b72 : Code := Tryz.f72.body.getD .skip
def lv72 (f : Nat) : List Nat := bif Nat.blt f 8 then (
 bif Nat.blt f 5 then (
  bif Nat.blt f 2 then (
   bif Nat.beq f 1 then [2,3,4,5] else []) else (
   bif Nat.blt f 3 then (
    bif Nat.beq f 2 then [2,3,4,5,9] else []) else (
    bif Nat.beq f 3 then [2,3,4,5,9,10] else []))) else (
  bif Nat.blt f 6 then (
   bif Nat.beq f 5 then [2,3,4,5,14] else []) else (
   bif Nat.blt f 7 then (
    bif Nat.beq f 6 then [2,3,4,5] else []) else (
    bif Nat.beq f 7 then [2,3,4,5,19] else [])))) else (
 bif Nat.blt f 11 then (
  bif Nat.blt f 9 then (
   bif Nat.beq f 8 then [2,3,4,5,6,21] else []) else (
   bif Nat.blt f 10 then (
    bif Nat.beq f 9 then [2,3,4,5,6,7] else []) else (
    bif Nat.beq f 10 then [3,4,5,6,25] else []))) else (
  bif Nat.blt f 12 then (
   bif Nat.beq f 11 then [2,4,5] else []) else (
   bif Nat.blt f 13 then (
    bif Nat.beq f 12 then [2,4,5,35] else []) else (
    bif Nat.beq f 13 then [2,4,5] else []))))
def ct72 (f : Nat) : Bool := false
def P72_0 (R : RT) (n0 ro rt : Nat) (t0 t1 : AV) (s : Sto) (QR : QT) : Prop := Wp (env R) (LFE (env R) 72 n0 ro rt) 43 [.cell 4 25,.cell 5 35] (sub b72 []) [] [(0,t0),(1,t1)] s QR
def P72_1 (R : RT) (n0 ro rt : Nat) (t2 t3 t4 t5 : AV) (s : Sto) (QR : QT) : Prop := Wp (env R) (LFE (env R) 72 n0 ro rt) 43 [.cell 4 25,.cell 5 35] (sub b72 [1,1]) [] [(2,t2),(3,t3),(4,t4),(5,t5)] s QR
def P72_2 (R : RT) (n0 ro rt : Nat) (t2 t3 t4 t5 t19 : AV) (s : Sto) (QR : QT) : Prop := Wp (env R) (LFE (env R) 72 n0 ro rt) 43 [.cell 4 25,.cell 5 35] (sub b72 [1,1,0,1,0]) [.blk 1,.seq (sub b72 [1,1,1])] [(2,t2),(3,t3),(4,t4),(5,t5),(19,t19)] s QR
def P72_3 (R : RT) (n0 ro rt : Nat) (t2 t4 t5 : AV) (s : Sto) (QR : QT) : Prop := Wp (env R) (LFE (env R) 72 n0 ro rt) 43 [.cell 4 25,.cell 5 35] (sub b72 [1,1,1]) [] [(2,t2),(4,t4),(5,t5)] s QR
def P72_4 (R : RT) (n0 ro rt : Nat) (t2 t4 t5 : AV) (s : Sto) (QR : QT) : Prop := Wp (env R) (LFE (env R) 72 n0 ro rt) 43 [.cell 4 25,.cell 5 35] (sub b72 [1,1,1,1]) [] [(2,t2),(4,t4),(5,t5)] s QR
theorem p72_0 {R : RT} {n0 ro rt : Nat} {t0 t1 : AV} {s : Sto} {QR : QT} (h :
 wBox s t0 fun a2 s1x0 =>
 wBox s1x0 t1 fun a3 s1x1 =>
 wNew s1x1 [(I64 0),(SS []),(I64 0),(.capped [])] fun a4 s1x2 =>
 wNew s1x2 [(I64 0),(I64 0)] fun a5 s1x3 =>
 wFad s1x3 a2 1 fun a8 =>
 wLd (env R) s1x3 none a8 fun a9 =>
 wStr .eql a9 (SS [65,110,121]) fun a11 =>
 wCond a11 (
 wBuild [(I64 0),(SS []),(I64 0),(.capped [])] [(0,1,(I64 0))] fun a12 =>
 wBuild [(I64 0),(I64 0)] [] fun a13 =>
 wSt (LFE (env R) 72 n0 ro rt) s1x3 4 a4 a12 fun s1x4 =>
 wSt (LFE (env R) 72 n0 ro rt) s1x4 2 a5 a13 fun s1x5 =>
 wLd (env R) s1x5 (some 4) a4 fun r =>
 wLd (env R) s1x5 (some 2) a5 fun rx6 =>
 QR (.tuple [r,rx6]) s1x5) (
 wStr .eql a9 (SS [78,101,118,101,114]) fun a15 =>
 wCond a15 (
 wBuild [(I64 0),(SS []),(I64 0),(.capped [])] [(0,1,(I64 1))] fun a16 =>
 wBuild [(I64 0),(I64 0)] [] fun a17 =>
 wSt (LFE (env R) 72 n0 ro rt) s1x3 4 a4 a16 fun s1x7 =>
 wSt (LFE (env R) 72 n0 ro rt) s1x7 2 a5 a17 fun s1x8 =>
 wLd (env R) s1x8 (some 4) a4 fun rx9 =>
 wLd (env R) s1x8 (some 2) a5 fun rx10 =>
 QR (.tuple [rx9,rx10]) s1x8) (
 P72_1 R n0 ro rt a2 a3 a4 a5 s1x3 QR))) : P72_0 R n0 ro rt t0 t1 s QR :=
  wpc_mp (lv := lv72) (ct := ct72) _ _ _ _ h (by kernel_rfl)
theorem p72_1 {R : RT} {n0 ro rt : Nat} {t2 t3 t4 t5 : AV} {s : Sto} {QR : QT} (h :
 wLd (env R) s none t3 fun a18 =>
 wCall (env R) (LFE (env R) 72 n0 ro rt) (.func (.func 97) [] []) [a18] s fun a19 s1x0 =>
 P72_2 R n0 ro rt t2 t3 t4 t5 a19 s1x0 QR) : P72_1 R n0 ro rt t2 t3 t4 t5 s QR :=
  wpc_mp (lv := lv72) (ct := ct72) _ _ _ _ h (by kernel_rfl)
theorem p72_2 {R : RT} {n0 ro rt : Nat} {t2 t3 t4 t5 t19 : AV} {s : Sto} {QR : QT} (h :
 P72_3 R n0 ro rt t2 t4 t5 s QR) : Wp (env R) (LFE (env R) 72 n0 ro rt) 43 [.cell 4 25,.cell 5 35] .skip [.blk 1,.seq (sub b72 [1,1,1])] [(2,t2),(3,t3),(4,t4),(5,t5),(19,t19)] s QR :=
  wpc_mp (lv := lv72) (ct := ct72) _ _ _ _ h (by kernel_rfl)
theorem p72_3 {R : RT} {n0 ro rt : Nat} {t2 t4 t5 : AV} {s : Sto} {QR : QT} (h :
 wLd (env R) s (some 4) t2 fun a33 =>
 wCall (env R) (LFE (env R) 72 n0 ro rt) (.func (.func 98) [] []) [a33] s fun a34 s1x0 =>
 wNot a34 fun a35 =>
 wCond a35 (
 wBuild [(I64 0),(SS []),(I64 0),(.capped [])] [] fun a36 =>
 wLd (env R) s1x0 (some 4) t2 fun a37 =>
 wCall (env R) (LFE (env R) 72 n0 ro rt) (.func (.func 74) [] []) [a37] s1x0 fun a38 s1x1 =>
 wSt (LFE (env R) 72 n0 ro rt) s1x1 4 t4 a36 fun s1x2 =>
 wSt (LFE (env R) 72 n0 ro rt) s1x2 2 t5 a38 fun s1x3 =>
 wLd (env R) s1x3 (some 4) t4 fun r =>
 wLd (env R) s1x3 (some 2) t5 fun rx4 =>
 QR (.tuple [r,rx4]) s1x3) (
 P72_4 R n0 ro rt t2 t4 t5 s1x0 QR)) : P72_3 R n0 ro rt t2 t4 t5 s QR :=
  wpc_mp (lv := lv72) (ct := ct72) _ _ _ _ h (by kernel_rfl)
theorem p72_4 {R : RT} {n0 ro rt : Nat} {t2 t4 t5 : AV} {s : Sto} {QR : QT} (h :
 wFad s t2 1 fun a39 =>
 wLd (env R) s none a39 fun a40 =>
 wBuild [(I64 0),(SS []),(I64 0),(.capped [])] [(0,1,(I64 2)),(1,1,a40)] fun a41 =>
 wBuild [(I64 0),(I64 0)] [] fun a42 =>
 wSt (LFE (env R) 72 n0 ro rt) s 4 t4 a41 fun s1x0 =>
 wSt (LFE (env R) 72 n0 ro rt) s1x0 2 t5 a42 fun s1x1 =>
 wLd (env R) s1x1 (some 4) t4 fun r =>
 wLd (env R) s1x1 (some 2) t5 fun rx2 =>
 QR (.tuple [r,rx2]) s1x1) : P72_4 R n0 ro rt t2 t4 t5 s QR :=
  wpc_mp (lv := lv72) (ct := ct72) _ _ _ _ h (by kernel_rfl)
theorem e72 {R : RT} {t0 t1 : AV} {u0 u1 : AV} {Post : AV → Prop} (hcl : closeL [] 0 0 [t0,t1] = some [u0,u1]) (h : P72_0 R 0 0 0 u0 u1 ⟨[],[]⟩ (QP Post)) : PureC (env R) 72 [t0,t1] Post :=
  call_rd (fn := Tryz.f72) (body := b72) Tryz.func72 (by kernel_rfl) (by kernel_rfl) (by kernel_rfl) (Nat.le_of_ble_eq_true (by kernel_rfl)) hcl (mpK h (by kernel_rfl))
end Go.Proofs.YtmipbilokjkjiaaGreatDoor
