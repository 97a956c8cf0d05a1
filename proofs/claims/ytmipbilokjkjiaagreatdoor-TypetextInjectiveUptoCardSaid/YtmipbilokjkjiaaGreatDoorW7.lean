/-
  What the points of some functions' code need: written by a program (wip/tel/GenW.lean.txt).
-/
import Derived.Test.YtmipbilokjkjiaaGreatDoorTab
import Derived.Test.YtmipbilokjkjiaaGreatDoorWvF
set_option linter.unusedSimpArgs false
set_option linter.unusedVariables false
namespace Go.Proofs.YtmipbilokjkjiaaGreatDoor
open Go.Tel
variable {R : RT} {n0 ro rt : Nat} {s : Sto} {QR : QT}
noncomputable def b26 : Code := Tryz.f26.body.getD .skip
def lv26 (f : Nat) : List Nat := bif Nat.blt f 21 then (
 bif Nat.blt f 11 then (
  bif Nat.blt f 5 then (
   bif Nat.blt f 3 then (
    bif Nat.blt f 2 then (
     bif Nat.beq f 1 then [0,1,2,3,8] else []) else (
     bif Nat.beq f 2 then [0,1,2,3,8,9] else [])) else (
    bif Nat.blt f 4 then (
     bif Nat.beq f 3 then [0,1,2,3,8,9,21] else []) else (
     bif Nat.beq f 4 then [0,1,2,3,8,9] else []))) else (
   bif Nat.blt f 7 then (
    bif Nat.blt f 6 then (
     bif Nat.beq f 5 then [0,1,2,3,8,22] else []) else (
     bif Nat.beq f 6 then [0,1,2,3,8,22,23] else [])) else (
    bif Nat.blt f 9 then (
     bif Nat.beq f 7 then [0,1,2,3,8,22,23] else []) else (
     bif Nat.beq f 9 then [0,1,2,3,8,22,32] else [])))) else (
  bif Nat.blt f 16 then (
   bif Nat.blt f 13 then (
    bif Nat.blt f 12 then (
     bif Nat.beq f 11 then [0,1,2,3,8,22,35] else []) else (
     bif Nat.beq f 12 then [0,1,2,3,8,22,35] else [])) else (
    bif Nat.blt f 14 then (
     bif Nat.beq f 13 then [0,1,2,3,8,39] else []) else (
     bif Nat.beq f 14 then [0,1,2,3,8] else []))) else (
   bif Nat.blt f 18 then (
    bif Nat.blt f 17 then (
     bif Nat.beq f 16 then [0,1,2,3,8,22,49] else []) else (
     bif Nat.beq f 17 then [0,1,2,3,8,22,49] else [])) else (
    bif Nat.blt f 20 then (
     bif Nat.beq f 18 then [0,1,2,3,8,22,49] else []) else (
     bif Nat.beq f 20 then [0,1,2,3,8,22,58] else []))))) else (
 bif Nat.blt f 30 then (
  bif Nat.blt f 26 then (
   bif Nat.blt f 24 then (
    bif Nat.blt f 23 then (
     bif Nat.beq f 21 then [0,1,2,3,8,22,58] else []) else (
     bif Nat.beq f 23 then [0,1,2,3,8,22,75] else [])) else (
    bif Nat.blt f 25 then (
     bif Nat.beq f 24 then [0,1,2,3,8,22,75] else []) else (
     bif Nat.beq f 25 then [0,1,2,3,8,10] else []))) else (
   bif Nat.blt f 28 then (
    bif Nat.blt f 27 then (
     bif Nat.beq f 26 then [0,1,2,3,8,10,11] else []) else (
     bif Nat.beq f 27 then [0,1,2,3,8,10,11,12] else [])) else (
    bif Nat.blt f 29 then (
     bif Nat.beq f 28 then [0,1,2,3,8,10,11,12] else []) else (
     bif Nat.beq f 29 then [0,1,2,3,8,10,11,12] else [])))) else (
  bif Nat.blt f 35 then (
   bif Nat.blt f 33 then (
    bif Nat.blt f 32 then (
     bif Nat.beq f 30 then [8,10] else []) else (
     bif Nat.beq f 32 then [0,1,2,3,8,98] else [])) else (
    bif Nat.blt f 34 then (
     bif Nat.beq f 33 then [0,1,2,3,8,13] else []) else (
     bif Nat.beq f 34 then [0,1,2,3,8,13,103] else []))) else (
   bif Nat.blt f 37 then (
    bif Nat.blt f 36 then (
     bif Nat.beq f 35 then [0,1,2,3,8,13] else []) else (
     bif Nat.beq f 36 then [0,8] else [])) else (
    bif Nat.blt f 38 then (
     bif Nat.beq f 37 then [8,118] else []) else (
     bif Nat.beq f 38 then [8] else [])))))
def ct26 (f : Nat) : Bool := false
def P26_0 (R : RT) (n0 ro rt : Nat) (t0 t1 t2 t3 : AV) (s : Sto) (QR : QT) : Prop := Wp (env R) (LFE (env R) 26 n0 ro rt) 125 [.cell 8 25] (sub b26 []) [] [(0,t0),(1,t1),(2,t2),(3,t3)] s QR
def P26_1 (R : RT) (n0 ro rt : Nat) (t0 t1 t2 t3 t8 t9 : AV) (s : Sto) (QR : QT) : Prop := Wp (env R) (LFE (env R) 26 n0 ro rt) 125 [.cell 8 25] (sub b26 [1,1,1]) [] [(0,t0),(1,t1),(2,t2),(3,t3),(8,t8),(9,t9)] s QR
def P26_2 (R : RT) (n0 ro rt : Nat) (t0 t1 t2 t3 t8 t22 t23 : AV) (s : Sto) (QR : QT) : Prop := Wp (env R) (LFE (env R) 26 n0 ro rt) 125 [.cell 8 25] (sub b26 [1,1,1,0,1,0,1]) [.blk 0,.seq (sub b26 [1,1,1,1])] [(0,t0),(1,t1),(2,t2),(3,t3),(8,t8),(22,t22),(23,t23)] s QR
def P26_3 (R : RT) (n0 ro rt : Nat) (t0 t1 t2 t3 t8 t22 t35 : AV) (s : Sto) (QR : QT) : Prop := Wp (env R) (LFE (env R) 26 n0 ro rt) 125 [.cell 8 25] (sub b26 [1,1,1,0,1,0,1,1,1,1,1]) [.blk 0,.seq (sub b26 [1,1,1,1])] [(0,t0),(1,t1),(2,t2),(3,t3),(8,t8),(22,t22),(35,t35)] s QR
def P26_4 (R : RT) (n0 ro rt : Nat) (t0 t1 t2 t3 t8 : AV) (s : Sto) (QR : QT) : Prop := Wp (env R) (LFE (env R) 26 n0 ro rt) 125 [.cell 8 25] (sub b26 [1,1,1,0,1,0,1,1,1,1,1,0,1]) [.blk 0,.seq (sub b26 [1,1,1,1])] [(0,t0),(1,t1),(2,t2),(3,t3),(8,t8)] s QR
def P26_5 (R : RT) (n0 ro rt : Nat) (t0 t1 t2 t3 t8 t22 t49 : AV) (s : Sto) (QR : QT) : Prop := Wp (env R) (LFE (env R) 26 n0 ro rt) 125 [.cell 8 25] (sub b26 [1,1,1,0,1,0,1,1,1,1,1,1,1]) [.blk 0,.seq (sub b26 [1,1,1,1])] [(0,t0),(1,t1),(2,t2),(3,t3),(8,t8),(22,t22),(49,t49)] s QR
def P26_6 (R : RT) (n0 ro rt : Nat) (t0 t1 t2 t3 t8 t22 t58 : AV) (s : Sto) (QR : QT) : Prop := Wp (env R) (LFE (env R) 26 n0 ro rt) 125 [.cell 8 25] (sub b26 [1,1,1,0,1,0,1,1,1,1,1,1,1,1,1]) [.blk 0,.seq (sub b26 [1,1,1,1])] [(0,t0),(1,t1),(2,t2),(3,t3),(8,t8),(22,t22),(58,t58)] s QR
def P26_7 (R : RT) (n0 ro rt : Nat) (t0 t1 t2 t3 t8 t22 t75 : AV) (s : Sto) (QR : QT) : Prop := Wp (env R) (LFE (env R) 26 n0 ro rt) 125 [.cell 8 25] (sub b26 [1,1,1,0,1,0,1,1,1,1,1,1,1,1,1,1,1]) [.blk 0,.seq (sub b26 [1,1,1,1])] [(0,t0),(1,t1),(2,t2),(3,t3),(8,t8),(22,t22),(75,t75)] s QR
def P26_8 (R : RT) (n0 ro rt : Nat) (t0 t1 t2 t3 t8 t10 t11 t12 : AV) (s : Sto) (QR : QT) : Prop := Wp (env R) (LFE (env R) 26 n0 ro rt) 125 [.cell 8 25] (.loop (sub b26 [1,1,1,0,1,0,1,1,1,1,1,1,1,1,1,1,1,0,1,1,0,1,0,0])) [.blk 1,.seq (sub b26 [1,1,1,0,1,0,1,1,1,1,1,1,1,1,1,1,1,0,1,1,1]),.blk 0,.seq (sub b26 [1,1,1,1])] [(0,t0),(1,t1),(2,t2),(3,t3),(8,t8),(10,t10),(11,t11),(12,t12)] s QR
def P26_9 (R : RT) (n0 ro rt : Nat) (t0 t1 t2 t3 t8 t13 : AV) (s : Sto) (QR : QT) : Prop := Wp (env R) (LFE (env R) 26 n0 ro rt) 125 [.cell 8 25] (sub b26 [1,1,1,0,1,0,1,1,1,1,1,1,1,1,1,1,1,1,1,0,1,1]) [.blk 0,.seq (sub b26 [1,1,1,1])] [(0,t0),(1,t1),(2,t2),(3,t3),(8,t8),(13,t13)] s QR
def P26_10 (R : RT) (n0 ro rt : Nat) (t0 t8 : AV) (s : Sto) (QR : QT) : Prop := Wp (env R) (LFE (env R) 26 n0 ro rt) 125 [.cell 8 25] (sub b26 [1,1,1,1]) [] [(0,t0),(8,t8)] s QR
def P26_11 (R : RT) (n0 ro rt : Nat) (t0 t1 t2 t3 t8 t10 t11 t12 : AV) (s : Sto) (QR : QT) : Prop := Wp (env R) (LFE (env R) 26 n0 ro rt) 125 [.cell 8 25] (sub b26 [1,1,1,0,1,0,1,1,1,1,1,1,1,1,1,1,1,0,1,1,0,1,0,0,1]) [.loop (sub b26 [1,1,1,0,1,0,1,1,1,1,1,1,1,1,1,1,1,0,1,1,0,1,0,0]),.blk 1,.seq (sub b26 [1,1,1,0,1,0,1,1,1,1,1,1,1,1,1,1,1,0,1,1,1]),.blk 0,.seq (sub b26 [1,1,1,1])] [(0,t0),(1,t1),(2,t2),(3,t3),(8,t8),(10,t10),(11,t11),(12,t12)] s QR
def P26_12 (R : RT) (n0 ro rt : Nat) (t8 t10 : AV) (s : Sto) (QR : QT) : Prop := Wp (env R) (LFE (env R) 26 n0 ro rt) 125 [.cell 8 25] (sub b26 [1,1,1,0,1,0,1,1,1,1,1,1,1,1,1,1,1,0,1,1,1]) [.blk 0,.seq (sub b26 [1,1,1,1])] [(8,t8),(10,t10)] s QR
def P26_13 (R : RT) (n0 ro rt : Nat) (t8 : AV) (s : Sto) (QR : QT) : Prop := Wp (env R) (LFE (env R) 26 n0 ro rt) 125 [.cell 8 25] (sub b26 [1,1,1,1,1]) [] [(8,t8)] s QR
def P26_14 (R : RT) (n0 ro rt : Nat) (t0 t1 t2 t3 t8 t10 t11 t12 : AV) (s : Sto) (QR : QT) : Prop := Wp (env R) (LFE (env R) 26 n0 ro rt) 125 [.cell 8 25] (sub b26 [1,1,1,0,1,0,1,1,1,1,1,1,1,1,1,1,1,0,1,1,0,1,0,0,1,1]) [.loop (sub b26 [1,1,1,0,1,0,1,1,1,1,1,1,1,1,1,1,1,0,1,1,0,1,0,0]),.blk 1,.seq (sub b26 [1,1,1,0,1,0,1,1,1,1,1,1,1,1,1,1,1,0,1,1,1]),.blk 0,.seq (sub b26 [1,1,1,1])] [(0,t0),(1,t1),(2,t2),(3,t3),(8,t8),(10,t10),(11,t11),(12,t12)] s QR
theorem p26_0 {t0 t1 t2 t3 : AV} (h :
 wNew s [(I64 0),(SS []),(I64 0),(.capped [])] fun a8 s1x0 =>
 wCall (env R) (LFE (env R) 26 n0 ro rt) (.func (.func 44) [] []) [t0,(I64 14)] s1x0 fun a15 s1x1 =>
 wInt .i64 .leq t2 (I64 0) fun a17 =>
 wGK a17 true s1x1 (fun K => K a15 s1x1) fun a19 s1x2 =>
 wGK a17 true s1x2 (fun K => wInt .i64 .gtr a19 (I64 5) fun a20 => K a20 s1x2) fun a20x3 s1x4 =>
 wPick a17 a20x3 (BB false) fun a21 =>
 wCond a21 (
 P26_1 R n0 ro rt t0 t1 t2 t3 a8 (I64 0) s1x4 QR) (
 P26_1 R n0 ro rt t0 t1 t2 t3 a8 a15 s1x4 QR)) : P26_0 R n0 ro rt t0 t1 t2 t3 s QR :=
  wpc_mp (lv := lv26) (ct := ct26) _ _ _ _ h (by kernel_rfl)
theorem p26_1 {t0 t1 t2 t3 t8 t9 : AV} (h :
 wInt .i64 .eql t9 (I64 0) fun a24 =>
 wCond a24 (
 P26_2 R n0 ro rt t0 t1 t2 t3 t8 t9 a24 s QR) (
 wInt .i64 .eql t9 (I64 1) fun a25 =>
 P26_2 R n0 ro rt t0 t1 t2 t3 t8 t9 a25 s QR)) : P26_1 R n0 ro rt t0 t1 t2 t3 t8 t9 s QR :=
  wpc_mp (lv := lv26) (ct := ct26) _ _ _ _ h (by kernel_rfl)
theorem p26_2 {t0 t1 t2 t3 t8 t22 t23 : AV} (h :
 wCond t23 (
 wLd (env R) s none (.gptr 4 0) fun a26 =>
 wCall (env R) (LFE (env R) 26 n0 ro rt) (.func (.func 44) [] []) [t0,(I64 4)] s fun a28 s1x0 =>
 wIdx s1x0 1 a26 a28 fun a29 =>
 wLd (env R) s1x0 none a29 fun a30 =>
 wCall (env R) (LFE (env R) 26 n0 ro rt) (.func (.func 36) [] []) [a30,(.capped [])] s1x0 fun a31 s1x1 =>
 wSt (LFE (env R) 26 n0 ro rt) s1x1 4 t8 a31 fun s1x2 =>
(wLd (env R) s1x0 none (.gptr 4 0) fun v => eqA v a26 = true) ∧
 wLd (env R) s1x2 (some 4) t8 fun r =>
 QR r s1x2) (
 wInt .i64 .eql t22 (I64 2) fun a33 =>
 wCond a33 (
 wCall (env R) (LFE (env R) 26 n0 ro rt) (.func (.func 33) [] []) [] s fun a34 s1x3 =>
 wSt (LFE (env R) 26 n0 ro rt) s1x3 4 t8 a34 fun s1x4 =>
 wLd (env R) s1x4 (some 4) t8 fun rx5 =>
 QR rx5 s1x4) (
 wInt .i64 .eql t22 (I64 3) fun a36 =>
 wCond a36 (
 P26_3 R n0 ro rt t0 t1 t2 t3 t8 t22 a36 s QR) (
 wInt .i64 .eql t22 (I64 4) fun a37 =>
 P26_3 R n0 ro rt t0 t1 t2 t3 t8 t22 a37 s QR)))) : P26_2 R n0 ro rt t0 t1 t2 t3 t8 t22 t23 s QR :=
  wpc_mp (lv := lv26) (ct := ct26) _ _ _ _ h (by kernel_rfl)
theorem p26_3 {t0 t1 t2 t3 t8 t22 t35 : AV} (h :
 wCond t35 (
 wInt .i64 .gtr t3 (I64 0) fun a39 =>
 wCond a39 (
 wCall (env R) (LFE (env R) 26 n0 ro rt) (.func (.func 44) [] []) [t0,t3] s fun a42 s1x0 =>
 wCall (env R) (LFE (env R) 26 n0 ro rt) (.func (.func 35) [] []) [a42] s1x0 fun a43 s1x1 =>
 wSt (LFE (env R) 26 n0 ro rt) s1x1 4 t8 a43 fun s1x2 =>
 wLd (env R) s1x2 (some 4) t8 fun r =>
 QR r s1x2) (
 P26_4 R n0 ro rt t0 t1 t2 t3 t8 s QR)) (
 wInt .i64 .eql t22 (I64 5) fun a50 =>
 wCond a50 (
 P26_5 R n0 ro rt t0 t1 t2 t3 t8 t22 a50 s QR) (
 wInt .i64 .eql t22 (I64 6) fun a51 =>
 wCond a51 (
 P26_5 R n0 ro rt t0 t1 t2 t3 t8 t22 a51 s QR) (
 wInt .i64 .eql t22 (I64 7) fun a52 =>
 P26_5 R n0 ro rt t0 t1 t2 t3 t8 t22 a52 s QR)))) : P26_3 R n0 ro rt t0 t1 t2 t3 t8 t22 t35 s QR :=
  wpc_mp (lv := lv26) (ct := ct26) _ _ _ _ h (by kernel_rfl)
theorem p26_4 {t0 t1 t2 t3 t8 : AV} (h :
 wCall (env R) (LFE (env R) 26 n0 ro rt) (.func (.func 48) [] []) [t0,t1,t2,t3] s fun a48 s1x0 =>
 wSt (LFE (env R) 26 n0 ro rt) s1x0 4 t8 a48 fun s1x1 =>
 wLd (env R) s1x1 (some 4) t8 fun r =>
 QR r s1x1) : P26_4 R n0 ro rt t0 t1 t2 t3 t8 s QR :=
  wpc_mp (lv := lv26) (ct := ct26) _ _ _ _ h (by kernel_rfl)
theorem p26_5 {t0 t1 t2 t3 t8 t22 t49 : AV} (h :
 wCond t49 (
 wCall (env R) (LFE (env R) 26 n0 ro rt) (.func (.func 48) [] []) [t0,t1,t2,t3] s fun a57 s1x0 =>
 wSt (LFE (env R) 26 n0 ro rt) s1x0 4 t8 a57 fun s1x1 =>
 wLd (env R) s1x1 (some 4) t8 fun r =>
 QR r s1x1) (
 wInt .i64 .eql t22 (I64 8) fun a59 =>
 wCond a59 (
 P26_6 R n0 ro rt t0 t1 t2 t3 t8 t22 a59 s QR) (
 wInt .i64 .eql t22 (I64 9) fun a60 =>
 P26_6 R n0 ro rt t0 t1 t2 t3 t8 t22 a60 s QR))) : P26_5 R n0 ro rt t0 t1 t2 t3 t8 t22 t49 s QR :=
  wpc_mp (lv := lv26) (ct := ct26) _ _ _ _ h (by kernel_rfl)
theorem p26_6 {t0 t1 t2 t3 t8 t22 t58 : AV} (h :
 wCond t58 (
 wInt .i64 .sub t2 (I64 1) fun a64 =>
 wCall (env R) (LFE (env R) 26 n0 ro rt) (.func (.func 26) [] []) [t0,t1,a64,t3] s fun a66 s1x0 =>
 wInt .i64 .sub t2 (I64 1) fun a70 =>
 wCall (env R) (LFE (env R) 26 n0 ro rt) (.func (.func 26) [] []) [t0,t1,a70,t3] s1x0 fun a72 s1x1 =>
 wBsl false s1x1 4 [(I64 0),(SS []),(I64 0),(.capped [])] 2 [(0,4,a66),(4,4,a72)] fun a73 s1x2 =>
 wCall (env R) (LFE (env R) 26 n0 ro rt) (.func (.func 49) [] []) [a73] s1x2 fun a74 s1x3 =>
 wSt (LFE (env R) 26 n0 ro rt) s1x3 4 t8 a74 fun s1x4 =>
 wLd (env R) s1x4 (some 4) t8 fun r =>
 QR r s1x4) (
 wInt .i64 .eql t22 (I64 10) fun a76 =>
 wCond a76 (
 P26_7 R n0 ro rt t0 t1 t2 t3 t8 t22 a76 s QR) (
 wInt .i64 .eql t22 (I64 11) fun a77 =>
 P26_7 R n0 ro rt t0 t1 t2 t3 t8 t22 a77 s QR))) : P26_6 R n0 ro rt t0 t1 t2 t3 t8 t22 t58 s QR :=
  wpc_mp (lv := lv26) (ct := ct26) _ _ _ _ h (by kernel_rfl)
theorem p26_7 {t0 t1 t2 t3 t8 t22 t75 : AV} (h :
 wCond t75 (
 wBuild [(I64 0),(SS []),(I64 0),(.capped [])] [(0,1,(I64 3))] fun a78 =>
 wNew s [(I64 0),(SS []),(I64 0),(.capped [])] fun a10 s1x0 =>
 wSt (LFE (env R) 26 n0 ro rt) s1x0 4 a10 a78 fun s1x1 =>
 wCall (env R) (LFE (env R) 26 n0 ro rt) (.func (.func 44) [] []) [t0,(I64 4)] s1x1 fun a80 s1x2 =>
 P26_8 R n0 ro rt t0 t1 t2 t3 t8 a10 a80 (I64 0) s1x2 QR) (
 wInt .i64 .eql t22 (I64 12) fun a99 =>
 wCond a99 (
 wCall (env R) (LFE (env R) 26 n0 ro rt) (.func (.func 33) [] []) [] s fun a100 s1x3 =>
 wNew s1x3 [(I64 0),(SS []),(I64 0),(.capped [])] fun a13 s1x4 =>
 wSt (LFE (env R) 26 n0 ro rt) s1x4 4 a13 a100 fun s1x5 =>
 wCall (env R) (LFE (env R) 26 n0 ro rt) (.func (.func 44) [] []) [t0,(I64 2)] s1x5 fun a102 s1x6 =>
 wInt .i64 .eql a102 (I64 1) fun a103 =>
 wCond a103 (
 wCall (env R) (LFE (env R) 26 n0 ro rt) (.func (.func 26) [] []) [t0,t1,(I64 1),(I64 0)] s1x6 fun a106 s1x7 =>
 wSt (LFE (env R) 26 n0 ro rt) s1x7 4 a13 a106 fun s1x8 =>
 P26_9 R n0 ro rt t0 t1 t2 t3 t8 a13 s1x8 QR) (
 P26_9 R n0 ro rt t0 t1 t2 t3 t8 a13 s1x6 QR)) (
 P26_10 R n0 ro rt t0 t8 s QR))) : P26_7 R n0 ro rt t0 t1 t2 t3 t8 t22 t75 s QR :=
  wpc_mp (lv := lv26) (ct := ct26) _ _ _ _ h (by kernel_rfl)
theorem p26_8 {t0 t1 t2 t3 t8 t10 t11 t12 : AV} (h :
 wInt .i64 .lss t12 t11 fun a83 =>
 wCond a83 (
 P26_11 R n0 ro rt t0 t1 t2 t3 t8 t10 t11 t12 s QR) (
 P26_12 R n0 ro rt t8 t10 s QR)) : P26_8 R n0 ro rt t0 t1 t2 t3 t8 t10 t11 t12 s QR :=
  wpl_mp (lv := lv26) (ct := ct26) _ _ _ _ h (by kernel_rfl)
theorem p26_9 {t0 t1 t2 t3 t8 t13 : AV} (h :
 wLd (env R) s (some 4) t13 fun a107 =>
 wInt .i64 .sub t2 (I64 1) fun a111 =>
 wInt .i64 .add t3 (I64 1) fun a113 =>
 wCall (env R) (LFE (env R) 26 n0 ro rt) (.func (.func 26) [] []) [t0,t1,a111,a113] s fun a114 s1x0 =>
 wCall (env R) (LFE (env R) 26 n0 ro rt) (.func (.func 32) [] []) [a107,a114] s1x0 fun a115 s1x1 =>
 wSt (LFE (env R) 26 n0 ro rt) s1x1 4 t8 a115 fun s1x2 =>
(wLd (env R) s1x0 (some 4) t13 fun v => eqA v a107 = true) ∧
 wLd (env R) s1x2 (some 4) t8 fun r =>
 QR r s1x2) : P26_9 R n0 ro rt t0 t1 t2 t3 t8 t13 s QR :=
  wpc_mp (lv := lv26) (ct := ct26) _ _ _ _ h (by kernel_rfl)
theorem p26_10 {t0 t8 : AV} (h :
 wCall (env R) (LFE (env R) 26 n0 ro rt) (.func (.func 44) [] []) [t0,(I64 4)] s fun a117 s1x0 =>
 wInt .i64 .eql a117 (I64 0) fun a118 =>
 wCond a118 (
 wCall (env R) (LFE (env R) 26 n0 ro rt) (.func (.func 50) [] []) [] s1x0 fun a119 s1x1 =>
 wSt (LFE (env R) 26 n0 ro rt) s1x1 4 t8 a119 fun s1x2 =>
 wLd (env R) s1x2 (some 4) t8 fun r =>
 QR r s1x2) (
 P26_13 R n0 ro rt t8 s1x0 QR)) : P26_10 R n0 ro rt t0 t8 s QR :=
  wpc_mp (lv := lv26) (ct := ct26) _ _ _ _ h (by kernel_rfl)
theorem p26_11 {t0 t1 t2 t3 t8 t10 t11 t12 : AV} (h :
 wFad s t10 3 fun a86 =>
 wLd (env R) s none a86 fun a87 =>
 wInt .i64 .sub t2 (I64 1) fun a91 =>
 wCall (env R) (LFE (env R) 26 n0 ro rt) (.func (.func 26) [] []) [t0,t1,a91,t3] s fun a93 s1x0 =>
 wBsl false s1x0 4 [(I64 0),(SS []),(I64 0),(.capped [])] 1 [(0,4,a93)] fun a94 s1x1 =>
(4 = 4 ∧ 4 ≠ 0) ∧ wApp false (LFE (env R) 26 n0 ro rt) s1x0 25 4 56 a87 a94 fun a95 s1x2 =>
 wFad s1x2 t10 3 fun a96 =>
 wSt (LFE (env R) 26 n0 ro rt) s1x2 1 a96 a95 fun s1x3 =>
(wFad s1x0 t10 3 fun v => eqA v a86 = true) ∧
(wLd (env R) s1x0 none a86 fun vx4 => eqA vx4 a87 = true) ∧
 P26_14 R n0 ro rt t0 t1 t2 t3 t8 t10 t11 t12 s1x3 QR) : P26_11 R n0 ro rt t0 t1 t2 t3 t8 t10 t11 t12 s QR :=
  wpc_mp (lv := lv26) (ct := ct26) _ _ _ _ h (by kernel_rfl)
theorem p26_12 {t8 t10 : AV} (h :
 wLd (env R) s (some 4) t10 fun a97 =>
 wSt (LFE (env R) 26 n0 ro rt) s 4 t8 a97 fun s1x0 =>
 wLd (env R) s1x0 (some 4) t8 fun r =>
 QR r s1x0) : P26_12 R n0 ro rt t8 t10 s QR :=
  wpc_mp (lv := lv26) (ct := ct26) _ _ _ _ h (by kernel_rfl)
theorem p26_13 {t8 : AV} (h :
 wCall (env R) (LFE (env R) 26 n0 ro rt) (.func (.func 33) [] []) [] s fun a120 s1x0 =>
 wCall (env R) (LFE (env R) 26 n0 ro rt) (.func (.func 35) [] []) [(I64 0)] s1x0 fun a121 s1x1 =>
 wBsl false s1x1 4 [(I64 0),(SS []),(I64 0),(.capped [])] 1 [(0,4,a121)] fun a122 s1x2 =>
 wCall (env R) (LFE (env R) 26 n0 ro rt) (.func (.func 36) [] []) [(SS [66,111,120]),a122] s1x2 fun a123 s1x3 =>
 wCall (env R) (LFE (env R) 26 n0 ro rt) (.func (.func 32) [] []) [a120,a123] s1x3 fun a124 s1x4 =>
 wSt (LFE (env R) 26 n0 ro rt) s1x4 4 t8 a124 fun s1x5 =>
 wLd (env R) s1x5 (some 4) t8 fun r =>
 QR r s1x5) : P26_13 R n0 ro rt t8 s QR :=
  wpc_mp (lv := lv26) (ct := ct26) _ _ _ _ h (by kernel_rfl)
theorem p26_14 {t0 t1 t2 t3 t8 t10 t11 t12 : AV} (h :
 wInt .i64 .add t12 (I64 1) fun a85 =>
 P26_8 R n0 ro rt t0 t1 t2 t3 t8 t10 t11 a85 s QR) : P26_14 R n0 ro rt t0 t1 t2 t3 t8 t10 t11 t12 s QR :=
  wpc_mp (lv := lv26) (ct := ct26) _ _ _ _ h (by kernel_rfl)
theorem m26 {R : RT} {t0 t1 t2 t3 : AV} {L : Lim} {s : Sto} {Post : AV → Sto → Prop} (hn : noIdL [t0,t1,t2,t3] = false) (h : P26_0 R 0 L.ro L.rt t0 t1 t2 t3 s (QM (L.rr 26) s.bs.length Post)) : ∃ v s',Post v s' ∧ CallE (env R) L 26 [t0,t1,t2,t3] s v s' :=
  call_im (fn := Tryz.f26) (body := b26) Tryz.func26 (by kernel_rfl) (by kernel_rfl) (by kernel_rfl) (Nat.le_of_ble_eq_true (by kernel_rfl)) hn (mpK h (by kernel_rfl))
noncomputable def b48 : Code := Tryz.f48.body.getD .skip
def lv48 (f : Nat) : List Nat := bif Nat.blt f 6 then (
 bif Nat.blt f 3 then (
  bif Nat.blt f 2 then (
   bif Nat.beq f 1 then [0,1,2,3,8] else []) else (
   bif Nat.beq f 2 then [0,1,2,3,8,9] else [])) else (
  bif Nat.blt f 4 then (
   bif Nat.beq f 3 then [0,1,2,3,8,9,19] else []) else (
   bif Nat.blt f 5 then (
    bif Nat.beq f 4 then [0,1,2,3,8,9] else []) else (
    bif Nat.beq f 5 then [0,1,2,3,8,10] else [])))) else (
 bif Nat.blt f 8 then (
  bif Nat.blt f 7 then (
   bif Nat.beq f 6 then [0,1,2,3,8,10,11] else []) else (
   bif Nat.beq f 7 then [0,1,2,3,8,10,11,12] else [])) else (
  bif Nat.blt f 9 then (
   bif Nat.beq f 8 then [0,1,2,3,8,10,11,12] else []) else (
   bif Nat.blt f 10 then (
    bif Nat.beq f 9 then [0,1,2,3,8,10,11,12] else []) else (
    bif Nat.beq f 10 then [8,11] else []))))
def ct48 (f : Nat) : Bool := false
def P48_0 (R : RT) (n0 ro rt : Nat) (t0 t1 t2 t3 : AV) (s : Sto) (QR : QT) : Prop := Wp (env R) (LFE (env R) 48 n0 ro rt) 51 [.cell 8 25] (sub b48 []) [] [(0,t0),(1,t1),(2,t2),(3,t3)] s QR
def P48_1 (R : RT) (n0 ro rt : Nat) (t0 t1 t2 t3 t8 t9 : AV) (s : Sto) (QR : QT) : Prop := Wp (env R) (LFE (env R) 48 n0 ro rt) 51 [.cell 8 25] (sub b48 [1,1,1]) [] [(0,t0),(1,t1),(2,t2),(3,t3),(8,t8),(9,t9)] s QR
def P48_2 (R : RT) (n0 ro rt : Nat) (t0 t1 t2 t3 t8 t10 t11 t12 : AV) (s : Sto) (QR : QT) : Prop := Wp (env R) (LFE (env R) 48 n0 ro rt) 51 [.cell 8 25] (.loop (sub b48 [1,1,1,1,1,0,1,0,0])) [.blk 0,.seq (sub b48 [1,1,1,1,1,1])] [(0,t0),(1,t1),(2,t2),(3,t3),(8,t8),(10,t10),(11,t11),(12,t12)] s QR
def P48_3 (R : RT) (n0 ro rt : Nat) (t0 t1 t2 t3 t8 t10 t11 t12 : AV) (s : Sto) (QR : QT) : Prop := Wp (env R) (LFE (env R) 48 n0 ro rt) 51 [.cell 8 25] (sub b48 [1,1,1,1,1,0,1,0,0,1]) [.loop (sub b48 [1,1,1,1,1,0,1,0,0]),.blk 0,.seq (sub b48 [1,1,1,1,1,1])] [(0,t0),(1,t1),(2,t2),(3,t3),(8,t8),(10,t10),(11,t11),(12,t12)] s QR
def P48_4 (R : RT) (n0 ro rt : Nat) (t8 t11 : AV) (s : Sto) (QR : QT) : Prop := Wp (env R) (LFE (env R) 48 n0 ro rt) 51 [.cell 8 25] (sub b48 [1,1,1,1,1,1]) [] [(8,t8),(11,t11)] s QR
def P48_5 (R : RT) (n0 ro rt : Nat) (t0 t1 t2 t3 t8 t10 t11 t12 : AV) (s : Sto) (QR : QT) : Prop := Wp (env R) (LFE (env R) 48 n0 ro rt) 51 [.cell 8 25] (sub b48 [1,1,1,1,1,0,1,0,0,1,1]) [.loop (sub b48 [1,1,1,1,1,0,1,0,0]),.blk 0,.seq (sub b48 [1,1,1,1,1,1])] [(0,t0),(1,t1),(2,t2),(3,t3),(8,t8),(10,t10),(11,t11),(12,t12)] s QR
theorem p48_0 {t0 t1 t2 t3 : AV} (h :
 wNew s [(I64 0),(SS []),(I64 0),(.capped [])] fun a8 s1x0 =>
 wLen s1x0 t1 fun a15 =>
 wInt .i64 .add a15 (I64 4) fun a16 =>
 wCall (env R) (LFE (env R) 48 n0 ro rt) (.func (.func 44) [] []) [t0,a16] s1x0 fun a17 s1x1 =>
 wInt .i64 .lss a17 (I64 4) fun a19 =>
 wCond a19 (
 wLd (env R) s1x1 none (.gptr 4 0) fun a20 =>
 wIdx s1x1 1 a20 a17 fun a22 =>
 wLd (env R) s1x1 none a22 fun a23 =>
 wCall (env R) (LFE (env R) 48 n0 ro rt) (.func (.func 36) [] []) [a23,(.capped [])] s1x1 fun a24 s1x2 =>
 wSt (LFE (env R) 48 n0 ro rt) s1x2 4 a8 a24 fun s1x3 =>
 wLd (env R) s1x3 (some 4) a8 fun r =>
 QR r s1x3) (
 P48_1 R n0 ro rt t0 t1 t2 t3 a8 a17 s1x1 QR)) : P48_0 R n0 ro rt t0 t1 t2 t3 s QR :=
  wpc_mp (lv := lv48) (ct := ct48) _ _ _ _ h (by kernel_rfl)
theorem p48_1 {t0 t1 t2 t3 t8 t9 : AV} (h :
 wInt .i64 .sub t9 (I64 4) fun a27 =>
 wIdx s 8 t1 a27 fun a28 =>
 wLd (env R) s (some 8) a28 fun a29 =>
 wNew s [(SS []),(I64 0),(I64 0),(SS []),(I64 0),(.capped []),(BB false),(.capped [])] fun a10 s1x0 =>
 wSt (LFE (env R) 48 n0 ro rt) s1x0 8 a10 a29 fun s1x1 =>
 wFad s1x1 a10 0 fun a30 =>
 wLd (env R) s1x1 none a30 fun a31 =>
 wBuild [(I64 0),(SS []),(I64 0),(.capped [])] [(0,1,(I64 2)),(1,1,a31)] fun a32 =>
 wNew s1x1 [(I64 0),(SS []),(I64 0),(.capped [])] fun a11 s1x2 =>
 wSt (LFE (env R) 48 n0 ro rt) s1x2 4 a11 a32 fun s1x3 =>
 P48_2 R n0 ro rt t0 t1 t2 t3 t8 a10 a11 (I64 0) s1x3 QR) : P48_1 R n0 ro rt t0 t1 t2 t3 t8 t9 s QR :=
  wpc_mp (lv := lv48) (ct := ct48) _ _ _ _ h (by kernel_rfl)
theorem p48_2 {t0 t1 t2 t3 t8 t10 t11 t12 : AV} (h :
 wFad s t10 1 fun a34 =>
 wLd (env R) s none a34 fun a35 =>
 wInt .i64 .lss t12 a35 fun a36 =>
 wCond a36 (
 P48_3 R n0 ro rt t0 t1 t2 t3 t8 t10 t11 t12 s QR) (
 P48_4 R n0 ro rt t8 t11 s QR)) : P48_2 R n0 ro rt t0 t1 t2 t3 t8 t10 t11 t12 s QR :=
  wpl_mp (lv := lv48) (ct := ct48) _ _ _ _ h (by kernel_rfl)
theorem p48_3 {t0 t1 t2 t3 t8 t10 t11 t12 : AV} (h :
 wFad s t11 3 fun a39 =>
 wLd (env R) s none a39 fun a40 =>
 wInt .i64 .sub t2 (I64 1) fun a44 =>
 wCall (env R) (LFE (env R) 48 n0 ro rt) (.func (.func 51) [] []) [t0,t1,a44,t3] s fun a46 s1x0 =>
 wBsl false s1x0 4 [(I64 0),(SS []),(I64 0),(.capped [])] 1 [(0,4,a46)] fun a47 s1x1 =>
(4 = 4 ∧ 4 ≠ 0) ∧ wApp false (LFE (env R) 48 n0 ro rt) s1x0 25 4 56 a40 a47 fun a48 s1x2 =>
 wFad s1x2 t11 3 fun a49 =>
 wSt (LFE (env R) 48 n0 ro rt) s1x2 1 a49 a48 fun s1x3 =>
(wFad s1x0 t11 3 fun v => eqA v a39 = true) ∧
(wLd (env R) s1x0 none a39 fun vx4 => eqA vx4 a40 = true) ∧
 P48_5 R n0 ro rt t0 t1 t2 t3 t8 t10 t11 t12 s1x3 QR) : P48_3 R n0 ro rt t0 t1 t2 t3 t8 t10 t11 t12 s QR :=
  wpc_mp (lv := lv48) (ct := ct48) _ _ _ _ h (by kernel_rfl)
theorem p48_4 {t8 t11 : AV} (h :
 wLd (env R) s (some 4) t11 fun a50 =>
 wSt (LFE (env R) 48 n0 ro rt) s 4 t8 a50 fun s1x0 =>
 wLd (env R) s1x0 (some 4) t8 fun r =>
 QR r s1x0) : P48_4 R n0 ro rt t8 t11 s QR :=
  wpc_mp (lv := lv48) (ct := ct48) _ _ _ _ h (by kernel_rfl)
theorem p48_5 {t0 t1 t2 t3 t8 t10 t11 t12 : AV} (h :
 wInt .i64 .add t12 (I64 1) fun a38 =>
 P48_2 R n0 ro rt t0 t1 t2 t3 t8 t10 t11 a38 s QR) : P48_5 R n0 ro rt t0 t1 t2 t3 t8 t10 t11 t12 s QR :=
  wpc_mp (lv := lv48) (ct := ct48) _ _ _ _ h (by kernel_rfl)
theorem m48 {R : RT} {t0 t1 t2 t3 : AV} {L : Lim} {s : Sto} {Post : AV → Sto → Prop} (hn : noIdL [t0,t1,t2,t3] = false) (h : P48_0 R 0 L.ro L.rt t0 t1 t2 t3 s (QM (L.rr 48) s.bs.length Post)) : ∃ v s',Post v s' ∧ CallE (env R) L 48 [t0,t1,t2,t3] s v s' :=
  call_im (fn := Tryz.f48) (body := b48) Tryz.func48 (by kernel_rfl) (by kernel_rfl) (by kernel_rfl) (Nat.le_of_ble_eq_true (by kernel_rfl)) hn (mpK h (by kernel_rfl))
noncomputable def b51 : Code := Tryz.f51.body.getD .skip
def lv51 (f : Nat) : List Nat := bif Nat.blt f 5 then (
 bif Nat.blt f 2 then (
  bif Nat.beq f 1 then [0,1,2,3,8] else []) else (
  bif Nat.blt f 3 then (
   bif Nat.beq f 2 then [0,1,2,3,8,9] else []) else (
   bif Nat.beq f 3 then [0,1,2,3,8,9,12] else []))) else (
 bif Nat.blt f 7 then (
  bif Nat.beq f 5 then [0,1,2,3,8,9,23] else []) else (
  bif Nat.blt f 8 then (
   bif Nat.beq f 7 then [0,1,2,3,8,32] else []) else (
   bif Nat.beq f 8 then [0,1,2,8] else [])))
def ct51 (f : Nat) : Bool := false
def P51_0 (R : RT) (n0 ro rt : Nat) (t0 t1 t2 t3 : AV) (s : Sto) (QR : QT) : Prop := Wp (env R) (LFE (env R) 51 n0 ro rt) 45 [.cell 8 25] (sub b51 []) [] [(0,t0),(1,t1),(2,t2),(3,t3)] s QR
def P51_1 (R : RT) (n0 ro rt : Nat) (t0 t1 t2 t8 : AV) (s : Sto) (QR : QT) : Prop := Wp (env R) (LFE (env R) 51 n0 ro rt) 45 [.cell 8 25] (sub b51 [1,1]) [] [(0,t0),(1,t1),(2,t2),(8,t8)] s QR
theorem p51_0 {t0 t1 t2 t3 : AV} (h :
 wNew s [(I64 0),(SS []),(I64 0),(.capped [])] fun a8 s1x0 =>
 wCall (env R) (LFE (env R) 51 n0 ro rt) (.func (.func 44) [] []) [t0,(I64 6)] s1x0 fun a11 s1x1 =>
 wInt .i64 .lss a11 (I64 2) fun a14 =>
 wGK a14 true s1x1 (fun K => K t3 s1x1) fun a16 s1x2 =>
 wGK a14 true s1x2 (fun K => wInt .i64 .gtr a16 (I64 0) fun a17 => K a17 s1x2) fun a17x3 s1x4 =>
 wPick a14 a17x3 (BB false) fun a18 =>
 wCond a18 (
 wCall (env R) (LFE (env R) 51 n0 ro rt) (.func (.func 44) [] []) [t0,t3] s1x4 fun a21 s1x5 =>
 wCall (env R) (LFE (env R) 51 n0 ro rt) (.func (.func 35) [] []) [a21] s1x5 fun a22 s1x6 =>
 wSt (LFE (env R) 51 n0 ro rt) s1x6 4 a8 a22 fun s1x7 =>
 wLd (env R) s1x7 (some 4) a8 fun r =>
 QR r s1x7) (
 wInt .i64 .leq t2 (I64 0) fun a25 =>
 wCond a25 (
 wLd (env R) s1x4 none (.gptr 4 0) fun a26 =>
 wCall (env R) (LFE (env R) 51 n0 ro rt) (.func (.func 44) [] []) [t0,(I64 4)] s1x4 fun a28 s1x8 =>
 wIdx s1x8 1 a26 a28 fun a29 =>
 wLd (env R) s1x8 none a29 fun a30 =>
 wCall (env R) (LFE (env R) 51 n0 ro rt) (.func (.func 36) [] []) [a30,(.capped [])] s1x8 fun a31 s1x9 =>
 wSt (LFE (env R) 51 n0 ro rt) s1x9 4 a8 a31 fun s1x10 =>
(wLd (env R) s1x8 none (.gptr 4 0) fun v => eqA v a26 = true) ∧
 wLd (env R) s1x10 (some 4) a8 fun rx11 =>
 QR rx11 s1x10) (
 wInt .i64 .lss a11 (I64 4) fun a34 =>
 wCond a34 (
 wCall (env R) (LFE (env R) 51 n0 ro rt) (.func (.func 48) [] []) [t0,t1,t2,t3] s1x4 fun a39 s1x12 =>
 wSt (LFE (env R) 51 n0 ro rt) s1x12 4 a8 a39 fun s1x13 =>
 wLd (env R) s1x13 (some 4) a8 fun rx14 =>
 QR rx14 s1x13) (
 P51_1 R n0 ro rt t0 t1 t2 a8 s1x4 QR)))) : P51_0 R n0 ro rt t0 t1 t2 t3 s QR :=
  wpc_mp (lv := lv51) (ct := ct51) _ _ _ _ h (by kernel_rfl)
theorem p51_1 {t0 t1 t2 t8 : AV} (h :
 wInt .i64 .sub t2 (I64 1) fun a43 =>
 wCall (env R) (LFE (env R) 51 n0 ro rt) (.func (.func 26) [] []) [t0,t1,a43,(I64 0)] s fun a44 s1x0 =>
 wSt (LFE (env R) 51 n0 ro rt) s1x0 4 t8 a44 fun s1x1 =>
 wLd (env R) s1x1 (some 4) t8 fun r =>
 QR r s1x1) : P51_1 R n0 ro rt t0 t1 t2 t8 s QR :=
  wpc_mp (lv := lv51) (ct := ct51) _ _ _ _ h (by kernel_rfl)
theorem m51 {R : RT} {t0 t1 t2 t3 : AV} {L : Lim} {s : Sto} {Post : AV → Sto → Prop} (hn : noIdL [t0,t1,t2,t3] = false) (h : P51_0 R 0 L.ro L.rt t0 t1 t2 t3 s (QM (L.rr 51) s.bs.length Post)) : ∃ v s',Post v s' ∧ CallE (env R) L 51 [t0,t1,t2,t3] s v s' :=
  call_im (fn := Tryz.f51) (body := b51) Tryz.func51 (by kernel_rfl) (by kernel_rfl) (by kernel_rfl) (Nat.le_of_ble_eq_true (by kernel_rfl)) hn (mpK h (by kernel_rfl))
noncomputable def b7 : Code := Tryz.f7.body.getD .skip
def lv7 (f : Nat) : List Nat := bif Nat.beq f 1 then [0,1,4] else []
def ct7 (f : Nat) : Bool := false
def P7_0 (R : RT) (n0 ro rt : Nat) (t0 t1 : AV) (s : Sto) (QR : QT) : Prop := Wp (env R) (LFE (env R) 7 n0 ro rt) 8 [.cell 4 25] (sub b7 []) [] [(0,t0),(1,t1)] s QR
theorem p7_0 {t0 t1 : AV} (h :
 wNew s [(I64 0),(SS []),(I64 0),(.capped [])] fun a4 s1x0 =>
 wCall (env R) (LFE (env R) 7 n0 ro rt) (.func (.func 26) [] []) [t0,t1,(I64 3),(I64 0)] s1x0 fun a7 s1x1 =>
 wSt (LFE (env R) 7 n0 ro rt) s1x1 4 a4 a7 fun s1x2 =>
 wLd (env R) s1x2 (some 4) a4 fun r =>
 QR r s1x2) : P7_0 R n0 ro rt t0 t1 s QR :=
  wpc_mp (lv := lv7) (ct := ct7) _ _ _ _ h (by kernel_rfl)
theorem m7 {R : RT} {t0 t1 : AV} {L : Lim} {s : Sto} {Post : AV → Sto → Prop} (hn : noIdL [t0,t1] = false) (h : P7_0 R 0 L.ro L.rt t0 t1 s (QM (L.rr 7) s.bs.length Post)) : ∃ v s',Post v s' ∧ CallE (env R) L 7 [t0,t1] s v s' :=
  call_im (fn := Tryz.f7) (body := b7) Tryz.func7 (by kernel_rfl) (by kernel_rfl) (by kernel_rfl) (Nat.le_of_ble_eq_true (by kernel_rfl)) hn (mpK h (by kernel_rfl))
noncomputable def b6 : Code := Tryz.f6.body.getD .skip
def lv6 (f : Nat) : List Nat := bif Nat.blt f 3 then (
 bif Nat.blt f 2 then (
  bif Nat.beq f 1 then [0,1,2] else []) else (
  bif Nat.beq f 2 then [0,1,2,7] else [])) else (
 bif Nat.blt f 4 then (
  bif Nat.beq f 3 then [7,8] else []) else (
  bif Nat.blt f 5 then (
   bif Nat.beq f 4 then [7,8,34] else []) else (
   bif Nat.beq f 5 then [7,8] else [])))
def ct6 (f : Nat) : Bool := false
def P6_0 (R : RT) (n0 ro rt : Nat) (t0 t1 t2 : AV) (s : Sto) (QR : QT) : Prop := Wp (env R) (LFE (env R) 6 n0 ro rt) 48 [.tmp 6] (sub b6 []) [] [(0,t0),(1,t1),(2,t2)] s QR
def P6_1 (R : RT) (n0 ro rt : Nat) (t7 t8 : AV) (s : Sto) (QR : QT) : Prop := Wp (env R) (LFE (env R) 6 n0 ro rt) 48 [.tmp 6] (sub b6 [1,1,1,1]) [] [(7,t7),(8,t8)] s QR
theorem p6_0 {t0 t1 t2 : AV} (h :
 wCall (env R) (LFE (env R) 6 n0 ro rt) (.func (.func 8) [] []) [t0] s fun a10 s1x0 =>
 wCall (env R) (LFE (env R) 6 n0 ro rt) (.func (.func 17) [] []) [] s1x0 fun a11 s1x1 =>
 wCall (env R) (LFE (env R) 6 n0 ro rt) (.func (.func 7) [] []) [a10,a11] s1x1 fun a12 s1x2 =>
 wNew s1x2 [(I64 0),(SS []),(I64 0),(.capped [])] fun a7 s1x3 =>
 wSt (LFE (env R) 6 n0 ro rt) s1x3 4 a7 a12 fun s1x4 =>
 wBsl false s1x4 1 [(I64 0)] 0 [] fun a13 s1x5 =>
 wLen s1x5 t0 fun a17 =>
 wInt .i64 .add a17 (I64 1) fun a18 =>
 wCall (env R) (LFE (env R) 6 n0 ro rt) (.func (.func 18) [] []) [t2,a18] s1x5 fun a19 s1x6 =>
 wSlc s1x6 1 t0 none (some a19) none fun a20 =>
(1 = 1 ∧ 1 ≠ 0) ∧ wApp false (LFE (env R) 6 n0 ro rt) s1x6 3 1 8 a13 a20 fun a21 s1x7 =>
(1 = 1 ∧ 1 ≠ 0) ∧ wApp false (LFE (env R) 6 n0 ro rt) s1x7 3 1 8 a21 t1 fun a23 s1x8 =>
 wCall (env R) (LFE (env R) 6 n0 ro rt) (.func (.func 8) [] []) [a23] s1x8 fun a24 s1x9 =>
 wCall (env R) (LFE (env R) 6 n0 ro rt) (.func (.func 17) [] []) [] s1x9 fun a25 s1x10 =>
 wCall (env R) (LFE (env R) 6 n0 ro rt) (.func (.func 7) [] []) [a24,a25] s1x10 fun a26 s1x11 =>
 wNew s1x11 [(I64 0),(SS []),(I64 0),(.capped [])] fun a8 s1x12 =>
 wSt (LFE (env R) 6 n0 ro rt) s1x12 4 a8 a26 fun s1x13 =>
 wLd (env R) s1x13 (some 4) a7 fun a27 =>
 wCall (env R) (LFE (env R) 6 n0 ro rt) (.func (.func 14) [] []) [a27] s1x13 fun a28 s1x14 =>
 wInt .i64 .neq a28 (I64 0) fun a29 =>
 wGK a29 false s1x14 (fun K => wLd (env R) s1x14 (some 4) a8 fun a31 => K a31 s1x14) fun a31x15 s1x16 =>
 wGK a29 false s1x16 (fun K => wCall (env R) (LFE (env R) 6 n0 ro rt) (.func (.func 14) [] []) [a31x15] s1x16 fun a32 s1x17 => K a32 s1x17) fun a32x18 s1x19 =>
 wGK a29 false s1x19 (fun K => wInt .i64 .neq a32x18 (I64 0) fun a33 => K a33 s1x19) fun a33x20 s1x21 =>
 wPick a29 (BB true) a33x20 fun a34 =>
 wCond a34 (
 wCall (env R) (LFE (env R) 6 n0 ro rt) (.func (.func 11) [] []) [] s1x21 fun a35 s1x22 =>
 QR a35 s1x22) (
 P6_1 R n0 ro rt a7 a8 s1x21 QR)) : P6_0 R n0 ro rt t0 t1 t2 s QR :=
  wpc_mp (lv := lv6) (ct := ct6) _ _ _ _ h (by kernel_rfl)
theorem p6_1 {t7 t8 : AV} (h :
 wCall (env R) (LFE (env R) 6 n0 ro rt) (.func (.func 11) [] []) [] s fun a36 s1x0 =>
 wGK a36 true s1x0 (fun K => wLd (env R) s1x0 (some 4) t7 fun a38 => K a38 s1x0) fun a38x1 s1x2 =>
 wGK a36 true s1x0 (fun K => wCall (env R) (LFE (env R) 6 n0 ro rt) (.func (.func 10) [] []) [a38x1] s1x0 fun a39 s1x3 => K a39 s1x3) fun a39x4 s1x5 =>
 wGK a36 true s1x5 (fun K => wLd (env R) s1x5 (some 4) t8 fun a40 => K a40 s1x5) fun a40x6 s1x7 =>
 wGK a36 true s1x5 (fun K => wCall (env R) (LFE (env R) 6 n0 ro rt) (.func (.func 10) [] []) [a40x6] s1x5 fun a41 s1x8 => K a41 s1x8) fun a41x9 s1x10 =>
 wGK a36 true s1x10 (fun K => wStr .eql a39x4 a41x9 fun a42 => K a42 s1x10) fun a42x11 s1x12 =>
 wGK a36 true s1x10 (fun K => wLd (env R) s1x10 (some 4) t7 fun a43 => K a43 s1x10) fun a43x13 s1x14 =>
 wGK a36 true s1x10 (fun K => wLd (env R) s1x10 (some 4) t8 fun a44 => K a44 s1x10) fun a44x15 s1x16 =>
 wGK a36 true s1x10 (fun K => wCall (env R) (LFE (env R) 6 n0 ro rt) (.func (.func 15) [] []) [a43x13,a44x15] s1x10 fun a45 s1x17 => K a45 s1x17) fun a45x18 s1x19 =>
 wGK a36 true s1x19 (fun K => wBool .eql a42x11 a45x18 fun a46 => K a46 s1x19) fun a46x20 s1x21 =>
 wPick a36 a46x20 (BB false) fun a47 =>
(wGK a36 true s1x0 (fun K => wLd (env R) s1x0 (some 4) t8 fun v => K v s1x0) fun vx22 s1x23 => eqA vx22 a40x6 = true) ∧
(wGK a36 true s1x19 (fun K => wStr .eql a39x4 a41x9 fun vx24 => K vx24 s1x19) fun vx25 s1x26 => eqA vx25 a42x11 = true) ∧
(wGK a36 true s1x0 (fun K => wLd (env R) s1x0 (some 4) t7 fun vx27 => K vx27 s1x0) fun vx28 s1x29 => eqA vx28 a43x13 = true) ∧
(wGK a36 true s1x5 (fun K => wLd (env R) s1x5 (some 4) t7 fun vx30 => K vx30 s1x5) fun vx31 s1x32 => eqA vx31 a43x13 = true) ∧
(wGK a36 true s1x0 (fun K => wLd (env R) s1x0 (some 4) t8 fun vx33 => K vx33 s1x0) fun vx34 s1x35 => eqA vx34 a44x15 = true) ∧
(wGK a36 true s1x5 (fun K => wLd (env R) s1x5 (some 4) t8 fun vx36 => K vx36 s1x5) fun vx37 s1x38 => eqA vx37 a44x15 = true) ∧
 QR a47 s1x19) : P6_1 R n0 ro rt t7 t8 s QR :=
  wpc_mp (lv := lv6) (ct := ct6) _ _ _ _ h (by kernel_rfl)
theorem e6 {R : RT} {t0 t1 t2 : AV} {u0 u1 u2 : AV} {Post : AV → Prop} (hcl : closeL [] 0 0 [t0,t1,t2] = some [u0,u1,u2]) (h : P6_0 R 0 0 0 u0 u1 u2 ⟨[],[]⟩ (QP Post)) : PureC (env R) 6 [t0,t1,t2] Post :=
  call_rd (fn := Tryz.f6) (body := b6) Tryz.func6 (by kernel_rfl) (by kernel_rfl) (by kernel_rfl) (Nat.le_of_ble_eq_true (by kernel_rfl)) hcl (mpK h (by kernel_rfl))
end Go.Proofs.YtmipbilokjkjiaaGreatDoor
