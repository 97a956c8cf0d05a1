/-
  What the points of some functions' code need: written by a program (wip/tel/GenW.lean.txt).
-/
import Derived.Test.YtmipbilokjkjiaaGreatDoorTab
import Derived.Test.YtmipbilokjkjiaaGreatDoorWvF
set_option linter.unusedSimpArgs false
set_option linter.unusedVariables false
namespace Go.Proofs.YtmipbilokjkjiaaGreatDoor
open Go.Tel
variable {R : RT} {n0 ro rt : Nat} {s : Sto} {QR : QT}
noncomputable def b16 : Code := Tryz.f16.body.getD .skip
def lv16 (f : Nat) : List Nat := bif Nat.beq f 1 then [0,1,2,6] else []
def ct16 (f : Nat) : Bool := false
def P16_0 (R : RT) (n0 ro rt : Nat) (t0 t1 t2 : AV) (s : Sto) (QR : QT) : Prop := Wp (env R) (LFE (env R) 16 n0 ro rt) 11 [.cell 6 25] (sub b16 []) [] [(0,t0),(1,t1),(2,t2)] s QR
theorem p16_0 {t0 t1 t2 : AV} (h :
 wNew s [(I64 0),(SS []),(I64 0),(.capped [])] fun a6 s1x0 =>
 wCall (env R) (LFE (env R) 16 n0 ro rt) (.func (.func 26) [] []) [t0,t1,(I64 3),t2] s1x0 fun a10 s1x1 =>
 wSt (LFE (env R) 16 n0 ro rt) s1x1 4 a6 a10 fun s1x2 =>
 wLd (env R) s1x2 (some 4) a6 fun r =>
 QR r s1x2) : P16_0 R n0 ro rt t0 t1 t2 s QR :=
  wpc_mp (lv := lv16) (ct := ct16) _ _ _ _ h (by kernel_rfl)
theorem m16 {R : RT} {t0 t1 t2 : AV} {L : Lim} {s : Sto} {Post : AV → Sto → Prop} (hn : noIdL [t0,t1,t2] = false) (h : P16_0 R 0 L.ro L.rt t0 t1 t2 s (QM (L.rr 16) s.bs.length Post)) : ∃ v s',Post v s' ∧ CallE (env R) L 16 [t0,t1,t2] s v s' :=
  call_im (fn := Tryz.f16) (body := b16) Tryz.func16 (by kernel_rfl) (by kernel_rfl) (by kernel_rfl) (Nat.le_of_ble_eq_true (by kernel_rfl)) hn (mpK h (by kernel_rfl))
noncomputable def b26 : Code := Tryz.f26.body.getD .skip
def lv26 (f : Nat) : List Nat := bif Nat.blt f 21 then (
 bif Nat.blt f 11 then (
  bif Nat.blt f 5 then (
   bif Nat.blt f 3 then (
    bif Nat.blt f 2 then (
     bif Nat.beq f 1 then [0,1,2,3,8] else []) else (
     bif Nat.beq f 2 then [0,1,2,3,8,9] else [])) else (
    bif Nat.blt f 4 then (
     bif Nat.beq f 3 then [0,1,2,3,8,9,21] else []) else (
     bif Nat.beq f 4 then [0,1,2,3,8,9] else []))) else (
   bif Nat.blt f 7 then (
    bif Nat.blt f 6 then (
     bif Nat.beq f 5 then [0,1,2,3,8,22] else []) else (
     bif Nat.beq f 6 then [0,1,2,3,8,22,23] else [])) else (
    bif Nat.blt f 9 then (
     bif Nat.beq f 7 then [0,1,2,3,8,22,23] else []) else (
     bif Nat.beq f 9 then [0,1,2,3,8,22,32] else [])))) else (
  bif Nat.blt f 16 then (
   bif Nat.blt f 13 then (
    bif Nat.blt f 12 then (
     bif Nat.beq f 11 then [0,1,2,3,8,22,35] else []) else (
     bif Nat.beq f 12 then [0,1,2,3,8,22,35] else [])) else (
    bif Nat.blt f 14 then (
     bif Nat.beq f 13 then [0,1,2,3,8,39] else []) else (
     bif Nat.beq f 14 then [0,1,2,3,8] else []))) else (
   bif Nat.blt f 18 then (
    bif Nat.blt f 17 then (
     bif Nat.beq f 16 then [0,1,2,3,8,22,49] else []) else (
     bif Nat.beq f 17 then [0,1,2,3,8,22,49] else [])) else (
    bif Nat.blt f 20 then (
     bif Nat.beq f 18 then [0,1,2,3,8,22,49] else []) else (
     bif Nat.beq f 20 then [0,1,2,3,8,22,58] else []))))) else (
 bif Nat.blt f 30 then (
  bif Nat.blt f 26 then (
   bif Nat.blt f 24 then (
    bif Nat.blt f 23 then (
     bif Nat.beq f 21 then [0,1,2,3,8,22,58] else []) else (
     bif Nat.beq f 23 then [0,1,2,3,8,22,75] else [])) else (
    bif Nat.blt f 25 then (
     bif Nat.beq f 24 then [0,1,2,3,8,22,75] else []) else (
     bif Nat.beq f 25 then [0,1,2,3,8,10] else []))) else (
   bif Nat.blt f 28 then (
    bif Nat.blt f 27 then (
     bif Nat.beq f 26 then [0,1,2,3,8,10,11] else []) else (
     bif Nat.beq f 27 then [0,1,2,3,8,10,11,12] else [])) else (
    bif Nat.blt f 29 then (
     bif Nat.beq f 28 then [0,1,2,3,8,10,11,12] else []) else (
     bif Nat.beq f 29 then [0,1,2,3,8,10,11,12] else [])))) else (
  bif Nat.blt f 35 then (
   bif Nat.blt f 33 then (
    bif Nat.blt f 32 then (
     bif Nat.beq f 30 then [8,10] else []) else (
     bif Nat.beq f 32 then [0,1,2,3,8,98] else [])) else (
    bif Nat.blt f 34 then (
     bif Nat.beq f 33 then [0,1,2,3,8,13] else []) else (
     bif Nat.beq f 34 then [0,1,2,3,8,13,103] else []))) else (
   bif Nat.blt f 37 then (
    bif Nat.blt f 36 then (
     bif Nat.beq f 35 then [0,1,2,3,8,13] else []) else (
     bif Nat.beq f 36 then [0,8] else [])) else (
    bif Nat.blt f 38 then (
     bif Nat.beq f 37 then [8,118] else []) else (
     bif Nat.beq f 38 then [8] else [])))))
def ct26 (f : Nat) : Bool := false
def P26_0 (R : RT) (n0 ro rt : Nat) (t0 t1 t2 t3 : AV) (s : Sto) (QR : QT) : Prop := Wp (env R) (LFE (env R) 26 n0 ro rt) 125 [.cell 8 25] (sub b26 []) [] [(0,t0),(1,t1),(2,t2),(3,t3)] s QR
def P26_1 (R : RT) (n0 ro rt : Nat) (t0 t1 t2 t3 t8 t9 : AV) (s : Sto) (QR : QT) : Prop := Wp (env R) (LFE (env R) 26 n0 ro rt) 125 [.cell 8 25] (sub b26 [1,1,1]) [] [(0,t0),(1,t1),(2,t2),(3,t3),(8,t8),(9,t9)] s QR
def P26_2 (R : RT) (n0 ro rt : Nat) (t0 t1 t2 t3 t8 t22 t23 : AV) (s : Sto) (QR : QT) : Prop := Wp (env R) (LFE (env R) 26 n0 ro rt) 125 [.cell 8 25] (sub b26 [1,1,1,0,1,0,1]) [.blk 0,.seq (sub b26 [1,1,1,1])] [(0,t0),(1,t1),(2,t2),(3,t3),(8,t8),(22,t22),(23,t23)] s QR
def P26_3 (R : RT) (n0 ro rt : Nat) (t0 t1 t2 t3 t8 t22 t35 : AV) (s : Sto) (QR : QT) : Prop := Wp (env R) (LFE (env R) 26 n0 ro rt) 125 [.cell 8 25] (sub b26 [1,1,1,0,1,0,1,1,1,1,1]) [.blk 0,.seq (sub b26 [1,1,1,1])] [(0,t0),(1,t1),(2,t2),(3,t3),(8,t8),(22,t22),(35,t35)] s QR
def P26_4 (R : RT) (n0 ro rt : Nat) (t0 t1 t2 t3 t8 : AV) (s : Sto) (QR : QT) : Prop := Wp (env R) (LFE (env R) 26 n0 ro rt) 125 [.cell 8 25] (sub b26 [1,1,1,0,1,0,1,1,1,1,1,0,1]) [.blk 0,.seq (sub b26 [1,1,1,1])] [(0,t0),(1,t1),(2,t2),(3,t3),(8,t8)] s QR
def P26_5 (R : RT) (n0 ro rt : Nat) (t0 t1 t2 t3 t8 t22 t49 : AV) (s : Sto) (QR : QT) : Prop := Wp (env R) (LFE (env R) 26 n0 ro rt) 125 [.cell 8 25] (sub b26 [1,1,1,0,1,0,1,1,1,1,1,1,1]) [.blk 0,.seq (sub b26 [1,1,1,1])] [(0,t0),(1,t1),(2,t2),(3,t3),(8,t8),(22,t22),(49,t49)] s QR
def P26_6 (R : RT) (n0 ro rt : Nat) (t0 t1 t2 t3 t8 t22 t58 : AV) (s : Sto) (QR : QT) : Prop := Wp (env R) (LFE (env R) 26 n0 ro rt) 125 [.cell 8 25] (sub b26 [1,1,1,0,1,0,1,1,1,1,1,1,1,1,1]) [.blk 0,.seq (sub b26 [1,1,1,1])] [(0,t0),(1,t1),(2,t2),(3,t3),(8,t8),(22,t22),(58,t58)] s QR
def P26_7 (R : RT) (n0 ro rt : Nat) (t0 t1 t2 t3 t8 t22 t75 : AV) (s : Sto) (QR : QT) : Prop := Wp (env R) (LFE (env R) 26 n0 ro rt) 125 [.cell 8 25] (sub b26 [1,1,1,0,1,0,1,1,1,1,1,1,1,1,1,1,1]) [.blk 0,.seq (sub b26 [1,1,1,1])] [(0,t0),(1,t1),(2,t2),(3,t3),(8,t8),(22,t22),(75,t75)] s QR
def P26_8 (R : RT) (n0 ro rt : Nat) (t0 t1 t2 t3 t8 t10 t11 t12 : AV) (s : Sto) (QR : QT) : Prop := Wp (env R) (LFE (env R) 26 n0 ro rt) 125 [.cell 8 25] (.loop (sub b26 [1,1,1,0,1,0,1,1,1,1,1,1,1,1,1,1,1,0,1,1,0,1,0,0])) [.blk 1,.seq (sub b26 [1,1,1,0,1,0,1,1,1,1,1,1,1,1,1,1,1,0,1,1,1]),.blk 0,.seq (sub b26 [1,1,1,1])] [(0,t0),(1,t1),(2,t2),(3,t3),(8,t8),(10,t10),(11,t11),(12,t12)] s QR
def P26_9 (R : RT) (n0 ro rt : Nat) (t0 t1 t2 t3 t8 t13 : AV) (s : Sto) (QR : QT) : Prop := Wp (env R) (LFE (env R) 26 n0 ro rt) 125 [.cell 8 25] (sub b26 [1,1,1,0,1,0,1,1,1,1,1,1,1,1,1,1,1,1,1,0,1,1]) [.blk 0,.seq (sub b26 [1,1,1,1])] [(0,t0),(1,t1),(2,t2),(3,t3),(8,t8),(13,t13)] s QR
def P26_10 (R : RT) (n0 ro rt : Nat) (t0 t8 : AV) (s : Sto) (QR : QT) : Prop := Wp (env R) (LFE (env R) 26 n0 ro rt) 125 [.cell 8 25] (sub b26 [1,1,1,1]) [] [(0,t0),(8,t8)] s QR
def P26_11 (R : RT) (n0 ro rt : Nat) (t0 t1 t2 t3 t8 t10 t11 t12 : AV) (s : Sto) (QR : QT) : Prop := Wp (env R) (LFE (env R) 26 n0 ro rt) 125 [.cell 8 25] (sub b26 [1,1,1,0,1,0,1,1,1,1,1,1,1,1,1,1,1,0,1,1,0,1,0,0,1]) [.loop (sub b26 [1,1,1,0,1,0,1,1,1,1,1,1,1,1,1,1,1,0,1,1,0,1,0,0]),.blk 1,.seq (sub b26 [1,1,1,0,1,0,1,1,1,1,1,1,1,1,1,1,1,0,1,1,1]),.blk 0,.seq (sub b26 [1,1,1,1])] [(0,t0),(1,t1),(2,t2),(3,t3),(8,t8),(10,t10),(11,t11),(12,t12)] s QR
def P26_12 (R : RT) (n0 ro rt : Nat) (t8 t10 : AV) (s : Sto) (QR : QT) : Prop := Wp (env R) (LFE (env R) 26 n0 ro rt) 125 [.cell 8 25] (sub b26 [1,1,1,0,1,0,1,1,1,1,1,1,1,1,1,1,1,0,1,1,1]) [.blk 0,.seq (sub b26 [1,1,1,1])] [(8,t8),(10,t10)] s QR
def P26_13 (R : RT) (n0 ro rt : Nat) (t8 : AV) (s : Sto) (QR : QT) : Prop := Wp (env R) (LFE (env R) 26 n0 ro rt) 125 [.cell 8 25] (sub b26 [1,1,1,1,1]) [] [(8,t8)] s QR
def P26_14 (R : RT) (n0 ro rt : Nat) (t0 t1 t2 t3 t8 t10 t11 t12 : AV) (s : Sto) (QR : QT) : Prop := Wp (env R) (LFE (env R) 26 n0 ro rt) 125 [.cell 8 25] (sub b26 [1,1,1,0,1,0,1,1,1,1,1,1,1,1,1,1,1,0,1,1,0,1,0,0,1,1]) [.loop (sub b26 [1,1,1,0,1,0,1,1,1,1,1,1,1,1,1,1,1,0,1,1,0,1,0,0]),.blk 1,.seq (sub b26 [1,1,1,0,1,0,1,1,1,1,1,1,1,1,1,1,1,0,1,1,1]),.blk 0,.seq (sub b26 [1,1,1,1])] [(0,t0),(1,t1),(2,t2),(3,t3),(8,t8),(10,t10),(11,t11),(12,t12)] s QR
theorem p26_0 {t0 t1 t2 t3 : AV} (h :
 wNew s [(I64 0),(SS []),(I64 0),(.capped [])] fun a8 s1x0 =>
 wCall (env R) (LFE (env R) 26 n0 ro rt) (.func (.func 44) [] []) [t0,(I64 14)] s1x0 fun a15 s1x1 =>
 wInt .i64 .leq t2 (I64 0) fun a17 =>
 wGK a17 true s1x1 (fun K => K a15 s1x1) fun a19 s1x2 =>
 wGK a17 true s1x2 (fun K => wInt .i64 .gtr a19 (I64 5) fun a20 => K a20 s1x2) fun a20x3 s1x4 =>
 wPick a17 a20x3 (BB false) fun a21 =>
 wCond a21 (
 P26_1 R n0 ro rt t0 t1 t2 t3 a8 (I64 0) s1x4 QR) (
 P26_1 R n0 ro rt t0 t1 t2 t3 a8 a15 s1x4 QR)) : P26_0 R n0 ro rt t0 t1 t2 t3 s QR :=
  wpc_mp (lv := lv26) (ct := ct26) _ _ _ _ h (by kernel_rfl)
theorem p26_1 {t0 t1 t2 t3 t8 t9 : AV} (h :
 wInt .i64 .eql t9 (I64 0) fun a24 =>
 wCond a24 (
 P26_2 R n0 ro rt t0 t1 t2 t3 t8 t9 a24 s QR) (
 wInt .i64 .eql t9 (I64 1) fun a25 =>
 P26_2 R n0 ro rt t0 t1 t2 t3 t8 t9 a25 s QR)) : P26_1 R n0 ro rt t0 t1 t2 t3 t8 t9 s QR :=
  wpc_mp (lv := lv26) (ct := ct26) _ _ _ _ h (by kernel_rfl)
theorem p26_2 {t0 t1 t2 t3 t8 t22 t23 : AV} (h :
 wCond t23 (
 wLd (env R) s none (.gptr 4 0) fun a26 =>
 wCall (env R) (LFE (env R) 26 n0 ro rt) (.func (.func 44) [] []) [t0,(I64 4)] s fun a28 s1x0 =>
 wIdx s1x0 1 a26 a28 fun a29 =>
 wLd (env R) s1x0 none a29 fun a30 =>
 wCall (env R) (LFE (env R) 26 n0 ro rt) (.func (.func 36) [] []) [a30,(.capped [])] s1x0 fun a31 s1x1 =>
 wSt (LFE (env R) 26 n0 ro rt) s1x1 4 t8 a31 fun s1x2 =>
(wLd (env R) s1x0 none (.gptr 4 0) fun v => eqA v a26 = true) ∧
 wLd (env R) s1x2 (some 4) t8 fun r =>
 QR r s1x2) (
 wInt .i64 .eql t22 (I64 2) fun a33 =>
 wCond a33 (
 wCall (env R) (LFE (env R) 26 n0 ro rt) (.func (.func 33) [] []) [] s fun a34 s1x3 =>
 wSt (LFE (env R) 26 n0 ro rt) s1x3 4 t8 a34 fun s1x4 =>
 wLd (env R) s1x4 (some 4) t8 fun rx5 =>
 QR rx5 s1x4) (
 wInt .i64 .eql t22 (I64 3) fun a36 =>
 wCond a36 (
 P26_3 R n0 ro rt t0 t1 t2 t3 t8 t22 a36 s QR) (
 wInt .i64 .eql t22 (I64 4) fun a37 =>
 P26_3 R n0 ro rt t0 t1 t2 t3 t8 t22 a37 s QR)))) : P26_2 R n0 ro rt t0 t1 t2 t3 t8 t22 t23 s QR :=
  wpc_mp (lv := lv26) (ct := ct26) _ _ _ _ h (by kernel_rfl)
theorem p26_3 {t0 t1 t2 t3 t8 t22 t35 : AV} (h :
 wCond t35 (
 wInt .i64 .gtr t3 (I64 0) fun a39 =>
 wCond a39 (
 wCall (env R) (LFE (env R) 26 n0 ro rt) (.func (.func 44) [] []) [t0,t3] s fun a42 s1x0 =>
 wCall (env R) (LFE (env R) 26 n0 ro rt) (.func (.func 35) [] []) [a42] s1x0 fun a43 s1x1 =>
 wSt (LFE (env R) 26 n0 ro rt) s1x1 4 t8 a43 fun s1x2 =>
 wLd (env R) s1x2 (some 4) t8 fun r =>
 QR r s1x2) (
 P26_4 R n0 ro rt t0 t1 t2 t3 t8 s QR)) (
 wInt .i64 .eql t22 (I64 5) fun a50 =>
 wCond a50 (
 P26_5 R n0 ro rt t0 t1 t2 t3 t8 t22 a50 s QR) (
 wInt .i64 .eql t22 (I64 6) fun a51 =>
 wCond a51 (
 P26_5 R n0 ro rt t0 t1 t2 t3 t8 t22 a51 s QR) (
 wInt .i64 .eql t22 (I64 7) fun a52 =>
 P26_5 R n0 ro rt t0 t1 t2 t3 t8 t22 a52 s QR)))) : P26_3 R n0 ro rt t0 t1 t2 t3 t8 t22 t35 s QR :=
  wpc_mp (lv := lv26) (ct := ct26) _ _ _ _ h (by kernel_rfl)
theorem p26_4 {t0 t1 t2 t3 t8 : AV} (h :
 wCall (env R) (LFE (env R) 26 n0 ro rt) (.func (.func 48) [] []) [t0,t1,t2,t3] s fun a48 s1x0 =>
 wSt (LFE (env R) 26 n0 ro rt) s1x0 4 t8 a48 fun s1x1 =>
 wLd (env R) s1x1 (some 4) t8 fun r =>
 QR r s1x1) : P26_4 R n0 ro rt t0 t1 t2 t3 t8 s QR :=
  wpc_mp (lv := lv26) (ct := ct26) _ _ _ _ h (by kernel_rfl)
theorem p26_5 {t0 t1 t2 t3 t8 t22 t49 : AV} (h :
 wCond t49 (
 wCall (env R) (LFE (env R) 26 n0 ro rt) (.func (.func 48) [] []) [t0,t1,t2,t3] s fun a57 s1x0 =>
 wSt (LFE (env R) 26 n0 ro rt) s1x0 4 t8 a57 fun s1x1 =>
 wLd (env R) s1x1 (some 4) t8 fun r =>
 QR r s1x1) (
 wInt .i64 .eql t22 (I64 8) fun a59 =>
 wCond a59 (
 P26_6 R n0 ro rt t0 t1 t2 t3 t8 t22 a59 s QR) (
 wInt .i64 .eql t22 (I64 9) fun a60 =>
 P26_6 R n0 ro rt t0 t1 t2 t3 t8 t22 a60 s QR))) : P26_5 R n0 ro rt t0 t1 t2 t3 t8 t22 t49 s QR :=
  wpc_mp (lv := lv26) (ct := ct26) _ _ _ _ h (by kernel_rfl)
theorem p26_6 {t0 t1 t2 t3 t8 t22 t58 : AV} (h :
 wCond t58 (
 wInt .i64 .sub t2 (I64 1) fun a64 =>
 wCall (env R) (LFE (env R) 26 n0 ro rt) (.func (.func 26) [] []) [t0,t1,a64,t3] s fun a66 s1x0 =>
 wInt .i64 .sub t2 (I64 1) fun a70 =>
 wCall (env R) (LFE (env R) 26 n0 ro rt) (.func (.func 26) [] []) [t0,t1,a70,t3] s1x0 fun a72 s1x1 =>
 wBsl false s1x1 4 [(I64 0),(SS []),(I64 0),(.capped [])] 2 [(0,4,a66),(4,4,a72)] fun a73 s1x2 =>
 wCall (env R) (LFE (env R) 26 n0 ro rt) (.func (.func 49) [] []) [a73] s1x2 fun a74 s1x3 =>
 wSt (LFE (env R) 26 n0 ro rt) s1x3 4 t8 a74 fun s1x4 =>
 wLd (env R) s1x4 (some 4) t8 fun r =>
 QR r s1x4) (
 wInt .i64 .eql t22 (I64 10) fun a76 =>
 wCond a76 (
 P26_7 R n0 ro rt t0 t1 t2 t3 t8 t22 a76 s QR) (
 wInt .i64 .eql t22 (I64 11) fun a77 =>
 P26_7 R n0 ro rt t0 t1 t2 t3 t8 t22 a77 s QR))) : P26_6 R n0 ro rt t0 t1 t2 t3 t8 t22 t58 s QR :=
  wpc_mp (lv := lv26) (ct := ct26) _ _ _ _ h (by kernel_rfl)
theorem p26_7 {t0 t1 t2 t3 t8 t22 t75 : AV} (h :
 wCond t75 (
 wBuild [(I64 0),(SS []),(I64 0),(.capped [])] [(0,1,(I64 3))] fun a78 =>
 wNew s [(I64 0),(SS []),(I64 0),(.capped [])] fun a10 s1x0 =>
 wSt (LFE (env R) 26 n0 ro rt) s1x0 4 a10 a78 fun s1x1 =>
 wCall (env R) (LFE (env R) 26 n0 ro rt) (.func (.func 44) [] []) [t0,(I64 4)] s1x1 fun a80 s1x2 =>
 P26_8 R n0 ro rt t0 t1 t2 t3 t8 a10 a80 (I64 0) s1x2 QR) (
 wInt .i64 .eql t22 (I64 12) fun a99 =>
 wCond a99 (
 wCall (env R) (LFE (env R) 26 n0 ro rt) (.func (.func 33) [] []) [] s fun a100 s1x3 =>
 wNew s1x3 [(I64 0),(SS []),(I64 0),(.capped [])] fun a13 s1x4 =>
 wSt (LFE (env R) 26 n0 ro rt) s1x4 4 a13 a100 fun s1x5 =>
 wCall (env R) (LFE (env R) 26 n0 ro rt) (.func (.func 44) [] []) [t0,(I64 2)] s1x5 fun a102 s1x6 =>
 wInt .i64 .eql a102 (I64 1) fun a103 =>
 wCond a103 (
 wCall (env R) (LFE (env R) 26 n0 ro rt) (.func (.func 26) [] []) [t0,t1,(I64 1),(I64 0)] s1x6 fun a106 s1x7 =>
 wSt (LFE (env R) 26 n0 ro rt) s1x7 4 a13 a106 fun s1x8 =>
 P26_9 R n0 ro rt t0 t1 t2 t3 t8 a13 s1x8 QR) (
 P26_9 R n0 ro rt t0 t1 t2 t3 t8 a13 s1x6 QR)) (
 P26_10 R n0 ro rt t0 t8 s QR))) : P26_7 R n0 ro rt t0 t1 t2 t3 t8 t22 t75 s QR :=
  wpc_mp (lv := lv26) (ct := ct26) _ _ _ _ h (by kernel_rfl)
theorem p26_8 {t0 t1 t2 t3 t8 t10 t11 t12 : AV} (h :
 wInt .i64 .lss t12 t11 fun a83 =>
 wCond a83 (
 P26_11 R n0 ro rt t0 t1 t2 t3 t8 t10 t11 t12 s QR) (
 P26_12 R n0 ro rt t8 t10 s QR)) : P26_8 R n0 ro rt t0 t1 t2 t3 t8 t10 t11 t12 s QR :=
  wpl_mp (lv := lv26) (ct := ct26) _ _ _ _ h (by kernel_rfl)
theorem p26_9 {t0 t1 t2 t3 t8 t13 : AV} (h :
 wLd (env R) s (some 4) t13 fun a107 =>
 wInt .i64 .sub t2 (I64 1) fun a111 =>
 wInt .i64 .add t3 (I64 1) fun a113 =>
 wCall (env R) (LFE (env R) 26 n0 ro rt) (.func (.func 26) [] []) [t0,t1,a111,a113] s fun a114 s1x0 =>
 wCall (env R) (LFE (env R) 26 n0 ro rt) (.func (.func 32) [] []) [a107,a114] s1x0 fun a115 s1x1 =>
 wSt (LFE (env R) 26 n0 ro rt) s1x1 4 t8 a115 fun s1x2 =>
(wLd (env R) s1x0 (some 4) t13 fun v => eqA v a107 = true) ∧
 wLd (env R) s1x2 (some 4) t8 fun r =>
 QR r s1x2) : P26_9 R n0 ro rt t0 t1 t2 t3 t8 t13 s QR :=
  wpc_mp (lv := lv26) (ct := ct26) _ _ _ _ h (by kernel_rfl)
theorem p26_10 {t0 t8 : AV} (h :
 wCall (env R) (LFE (env R) 26 n0 ro rt) (.func (.func 44) [] []) [t0,(I64 4)] s fun a117 s1x0 =>
 wInt .i64 .eql a117 (I64 0) fun a118 =>
 wCond a118 (
 wCall (env R) (LFE (env R) 26 n0 ro rt) (.func (.func 50) [] []) [] s1x0 fun a119 s1x1 =>
 wSt (LFE (env R) 26 n0 ro rt) s1x1 4 t8 a119 fun s1x2 =>
 wLd (env R) s1x2 (some 4) t8 fun r =>
 QR r s1x2) (
 P26_13 R n0 ro rt t8 s1x0 QR)) : P26_10 R n0 ro rt t0 t8 s QR :=
  wpc_mp (lv := lv26) (ct := ct26) _ _ _ _ h (by kernel_rfl)
theorem p26_11 {t0 t1 t2 t3 t8 t10 t11 t12 : AV} (h :
 wFad s t10 3 fun a86 =>
 wLd (env R) s none a86 fun a87 =>
 wInt .i64 .sub t2 (I64 1) fun a91 =>
 wCall (env R) (LFE (env R) 26 n0 ro rt) (.func (.func 26) [] []) [t0,t1,a91,t3] s fun a93 s1x0 =>
 wBsl false s1x0 4 [(I64 0),(SS []),(I64 0),(.capped [])] 1 [(0,4,a93)] fun a94 s1x1 =>
(4 = 4 ∧ 4 ≠ 0) ∧ wApp false (LFE (env R) 26 n0 ro rt) s1x0 25 4 56 a87 a94 fun a95 s1x2 =>
 wFad s1x2 t10 3 fun a96 =>
 wSt (LFE (env R) 26 n0 ro rt) s1x2 1 a96 a95 fun s1x3 =>
(wFad s1x0 t10 3 fun v => eqA v a86 = true) ∧
(wLd (env R) s1x0 none a86 fun vx4 => eqA vx4 a87 = true) ∧
 P26_14 R n0 ro rt t0 t1 t2 t3 t8 t10 t11 t12 s1x3 QR) : P26_11 R n0 ro rt t0 t1 t2 t3 t8 t10 t11 t12 s QR :=
  wpc_mp (lv := lv26) (ct := ct26) _ _ _ _ h (by kernel_rfl)
theorem p26_12 {t8 t10 : AV} (h :
 wLd (env R) s (some 4) t10 fun a97 =>
 wSt (LFE (env R) 26 n0 ro rt) s 4 t8 a97 fun s1x0 =>
 wLd (env R) s1x0 (some 4) t8 fun r =>
 QR r s1x0) : P26_12 R n0 ro rt t8 t10 s QR :=
  wpc_mp (lv := lv26) (ct := ct26) _ _ _ _ h (by kernel_rfl)
theorem p26_13 {t8 : AV} (h :
 wCall (env R) (LFE (env R) 26 n0 ro rt) (.func (.func 33) [] []) [] s fun a120 s1x0 =>
 wCall (env R) (LFE (env R) 26 n0 ro rt) (.func (.func 35) [] []) [(I64 0)] s1x0 fun a121 s1x1 =>
 wBsl false s1x1 4 [(I64 0),(SS []),(I64 0),(.capped [])] 1 [(0,4,a121)] fun a122 s1x2 =>
 wCall (env R) (LFE (env R) 26 n0 ro rt) (.func (.func 36) [] []) [(SS [66,111,120]),a122] s1x2 fun a123 s1x3 =>
 wCall (env R) (LFE (env R) 26 n0 ro rt) (.func (.func 32) [] []) [a120,a123] s1x3 fun a124 s1x4 =>
 wSt (LFE (env R) 26 n0 ro rt) s1x4 4 t8 a124 fun s1x5 =>
 wLd (env R) s1x5 (some 4) t8 fun r =>
 QR r s1x5) : P26_13 R n0 ro rt t8 s QR :=
  wpc_mp (lv := lv26) (ct := ct26) _ _ _ _ h (by kernel_rfl)
theorem p26_14 {t0 t1 t2 t3 t8 t10 t11 t12 : AV} (h :
 wInt .i64 .add t12 (I64 1) fun a85 =>
 P26_8 R n0 ro rt t0 t1 t2 t3 t8 t10 t11 a85 s QR) : P26_14 R n0 ro rt t0 t1 t2 t3 t8 t10 t11 t12 s QR :=
  wpc_mp (lv := lv26) (ct := ct26) _ _ _ _ h (by kernel_rfl)
theorem m26 {R : RT} {t0 t1 t2 t3 : AV} {L : Lim} {s : Sto} {Post : AV → Sto → Prop} (hn : noIdL [t0,t1,t2,t3] = false) (h : P26_0 R 0 L.ro L.rt t0 t1 t2 t3 s (QM (L.rr 26) s.bs.length Post)) : ∃ v s',Post v s' ∧ CallE (env R) L 26 [t0,t1,t2,t3] s v s' :=
  call_im (fn := Tryz.f26) (body := b26) Tryz.func26 (by kernel_rfl) (by kernel_rfl) (by kernel_rfl) (Nat.le_of_ble_eq_true (by kernel_rfl)) hn (mpK h (by kernel_rfl))
noncomputable def b48 : Code := Tryz.f48.body.getD .skip
def lv48 (f : Nat) : List Nat := bif Nat.blt f 6 then (
 bif Nat.blt f 3 then (
  bif Nat.blt f 2 then (
   bif Nat.beq f 1 then [0,1,2,3,8] else []) else (
   bif Nat.beq f 2 then [0,1,2,3,8,9] else [])) else (
  bif Nat.blt f 4 then (
   bif Nat.beq f 3 then [0,1,2,3,8,9,19] else []) else (
   bif Nat.blt f 5 then (
    bif Nat.beq f 4 then [0,1,2,3,8,9] else []) else (
    bif Nat.beq f 5 then [0,1,2,3,8,10] else [])))) else (
 bif Nat.blt f 8 then (
  bif Nat.blt f 7 then (
   bif Nat.beq f 6 then [0,1,2,3,8,10,11] else []) else (
   bif Nat.beq f 7 then [0,1,2,3,8,10,11,12] else [])) else (
  bif Nat.blt f 9 then (
   bif Nat.beq f 8 then [0,1,2,3,8,10,11,12] else []) else (
   bif Nat.blt f 10 then (
    bif Nat.beq f 9 then [0,1,2,3,8,10,11,12] else []) else (
    bif Nat.beq f 10 then [8,11] else []))))
def ct48 (f : Nat) : Bool := false
def P48_0 (R : RT) (n0 ro rt : Nat) (t0 t1 t2 t3 : AV) (s : Sto) (QR : QT) : Prop := Wp (env R) (LFE (env R) 48 n0 ro rt) 51 [.cell 8 25] (sub b48 []) [] [(0,t0),(1,t1),(2,t2),(3,t3)] s QR
def P48_1 (R : RT) (n0 ro rt : Nat) (t0 t1 t2 t3 t8 t9 : AV) (s : Sto) (QR : QT) : Prop := Wp (env R) (LFE (env R) 48 n0 ro rt) 51 [.cell 8 25] (sub b48 [1,1,1]) [] [(0,t0),(1,t1),(2,t2),(3,t3),(8,t8),(9,t9)] s QR
def P48_2 (R : RT) (n0 ro rt : Nat) (t0 t1 t2 t3 t8 t10 t11 t12 : AV) (s : Sto) (QR : QT) : Prop := Wp (env R) (LFE (env R) 48 n0 ro rt) 51 [.cell 8 25] (.loop (sub b48 [1,1,1,1,1,0,1,0,0])) [.blk 0,.seq (sub b48 [1,1,1,1,1,1])] [(0,t0),(1,t1),(2,t2),(3,t3),(8,t8),(10,t10),(11,t11),(12,t12)] s QR
def P48_3 (R : RT) (n0 ro rt : Nat) (t0 t1 t2 t3 t8 t10 t11 t12 : AV) (s : Sto) (QR : QT) : Prop := Wp (env R) (LFE (env R) 48 n0 ro rt) 51 [.cell 8 25] (sub b48 [1,1,1,1,1,0,1,0,0,1]) [.loop (sub b48 [1,1,1,1,1,0,1,0,0]),.blk 0,.seq (sub b48 [1,1,1,1,1,1])] [(0,t0),(1,t1),(2,t2),(3,t3),(8,t8),(10,t10),(11,t11),(12,t12)] s QR
def P48_4 (R : RT) (n0 ro rt : Nat) (t8 t11 : AV) (s : Sto) (QR : QT) : Prop := Wp (env R) (LFE (env R) 48 n0 ro rt) 51 [.cell 8 25] (sub b48 [1,1,1,1,1,1]) [] [(8,t8),(11,t11)] s QR
def P48_5 (R : RT) (n0 ro rt : Nat) (t0 t1 t2 t3 t8 t10 t11 t12 : AV) (s : Sto) (QR : QT) : Prop := Wp (env R) (LFE (env R) 48 n0 ro rt) 51 [.cell 8 25] (sub b48 [1,1,1,1,1,0,1,0,0,1,1]) [.loop (sub b48 [1,1,1,1,1,0,1,0,0]),.blk 0,.seq (sub b48 [1,1,1,1,1,1])] [(0,t0),(1,t1),(2,t2),(3,t3),(8,t8),(10,t10),(11,t11),(12,t12)] s QR
theorem p48_0 {t0 t1 t2 t3 : AV} (h :
 wNew s [(I64 0),(SS []),(I64 0),(.capped [])] fun a8 s1x0 =>
 wLen s1x0 t1 fun a15 =>
 wInt .i64 .add a15 (I64 4) fun a16 =>
 wCall (env R) (LFE (env R) 48 n0 ro rt) (.func (.func 44) [] []) [t0,a16] s1x0 fun a17 s1x1 =>
 wInt .i64 .lss a17 (I64 4) fun a19 =>
 wCond a19 (
 wLd (env R) s1x1 none (.gptr 4 0) fun a20 =>
 wIdx s1x1 1 a20 a17 fun a22 =>
 wLd (env R) s1x1 none a22 fun a23 =>
 wCall (env R) (LFE (env R) 48 n0 ro rt) (.func (.func 36) [] []) [a23,(.capped [])] s1x1 fun a24 s1x2 =>
 wSt (LFE (env R) 48 n0 ro rt) s1x2 4 a8 a24 fun s1x3 =>
 wLd (env R) s1x3 (some 4) a8 fun r =>
 QR r s1x3) (
 P48_1 R n0 ro rt t0 t1 t2 t3 a8 a17 s1x1 QR)) : P48_0 R n0 ro rt t0 t1 t2 t3 s QR :=
  wpc_mp (lv := lv48) (ct := ct48) _ _ _ _ h (by kernel_rfl)
theorem p48_1 {t0 t1 t2 t3 t8 t9 : AV} (h :
 wInt .i64 .sub t9 (I64 4) fun a27 =>
 wIdx s 8 t1 a27 fun a28 =>
 wLd (env R) s (some 8) a28 fun a29 =>
 wNew s [(SS []),(I64 0),(I64 0),(SS []),(I64 0),(.capped []),(BB false),(.capped [])] fun a10 s1x0 =>
 wSt (LFE (env R) 48 n0 ro rt) s1x0 8 a10 a29 fun s1x1 =>
 wFad s1x1 a10 0 fun a30 =>
 wLd (env R) s1x1 none a30 fun a31 =>
 wBuild [(I64 0),(SS []),(I64 0),(.capped [])] [(0,1,(I64 2)),(1,1,a31)] fun a32 =>
 wNew s1x1 [(I64 0),(SS []),(I64 0),(.capped [])] fun a11 s1x2 =>
 wSt (LFE (env R) 48 n0 ro rt) s1x2 4 a11 a32 fun s1x3 =>
 P48_2 R n0 ro rt t0 t1 t2 t3 t8 a10 a11 (I64 0) s1x3 QR) : P48_1 R n0 ro rt t0 t1 t2 t3 t8 t9 s QR :=
  wpc_mp (lv := lv48) (ct := ct48) _ _ _ _ h (by kernel_rfl)
theorem p48_2 {t0 t1 t2 t3 t8 t10 t11 t12 : AV} (h :
 wFad s t10 1 fun a34 =>
 wLd (env R) s none a34 fun a35 =>
 wInt .i64 .lss t12 a35 fun a36 =>
 wCond a36 (
 P48_3 R n0 ro rt t0 t1 t2 t3 t8 t10 t11 t12 s QR) (
 P48_4 R n0 ro rt t8 t11 s QR)) : P48_2 R n0 ro rt t0 t1 t2 t3 t8 t10 t11 t12 s QR :=
  wpl_mp (lv := lv48) (ct := ct48) _ _ _ _ h (by kernel_rfl)
theorem p48_3 {t0 t1 t2 t3 t8 t10 t11 t12 : AV} (h :
 wFad s t11 3 fun a39 =>
 wLd (env R) s none a39 fun a40 =>
 wInt .i64 .sub t2 (I64 1) fun a44 =>
 wCall (env R) (LFE (env R) 48 n0 ro rt) (.func (.func 51) [] []) [t0,t1,a44,t3] s fun a46 s1x0 =>
 wBsl false s1x0 4 [(I64 0),(SS []),(I64 0),(.capped [])] 1 [(0,4,a46)] fun a47 s1x1 =>
(4 = 4 ∧ 4 ≠ 0) ∧ wApp false (LFE (env R) 48 n0 ro rt) s1x0 25 4 56 a40 a47 fun a48 s1x2 =>
 wFad s1x2 t11 3 fun a49 =>
 wSt (LFE (env R) 48 n0 ro rt) s1x2 1 a49 a48 fun s1x3 =>
(wFad s1x0 t11 3 fun v => eqA v a39 = true) ∧
(wLd (env R) s1x0 none a39 fun vx4 => eqA vx4 a40 = true) ∧
 P48_5 R n0 ro rt t0 t1 t2 t3 t8 t10 t11 t12 s1x3 QR) : P48_3 R n0 ro rt t0 t1 t2 t3 t8 t10 t11 t12 s QR :=
  wpc_mp (lv := lv48) (ct := ct48) _ _ _ _ h (by kernel_rfl)
theorem p48_4 {t8 t11 : AV} (h :
 wLd (env R) s (some 4) t11 fun a50 =>
 wSt (LFE (env R) 48 n0 ro rt) s 4 t8 a50 fun s1x0 =>
 wLd (env R) s1x0 (some 4) t8 fun r =>
 QR r s1x0) : P48_4 R n0 ro rt t8 t11 s QR :=
  wpc_mp (lv := lv48) (ct := ct48) _ _ _ _ h (by kernel_rfl)
theorem p48_5 {t0 t1 t2 t3 t8 t10 t11 t12 : AV} (h :
 wInt .i64 .add t12 (I64 1) fun a38 =>
 P48_2 R n0 ro rt t0 t1 t2 t3 t8 t10 t11 a38 s QR) : P48_5 R n0 ro rt t0 t1 t2 t3 t8 t10 t11 t12 s QR :=
  wpc_mp (lv := lv48) (ct := ct48) _ _ _ _ h (by kernel_rfl)
theorem m48 {R : RT} {t0 t1 t2 t3 : AV} {L : Lim} {s : Sto} {Post : AV → Sto → Prop} (hn : noIdL [t0,t1,t2,t3] = false) (h : P48_0 R 0 L.ro L.rt t0 t1 t2 t3 s (QM (L.rr 48) s.bs.length Post)) : ∃ v s',Post v s' ∧ CallE (env R) L 48 [t0,t1,t2,t3] s v s' :=
  call_im (fn := Tryz.f48) (body := b48) Tryz.func48 (by kernel_rfl) (by kernel_rfl) (by kernel_rfl) (Nat.le_of_ble_eq_true (by kernel_rfl)) hn (mpK h (by kernel_rfl))
noncomputable def b51 : Code := Tryz.f51.body.getD .skip
def lv51 (f : Nat) : List Nat := bif Nat.blt f 5 then (
 bif Nat.blt f 2 then (
  bif Nat.beq f 1 then [0,1,2,3,8] else []) else (
  bif Nat.blt f 3 then (
   bif Nat.beq f 2 then [0,1,2,3,8,9] else []) else (
   bif Nat.beq f 3 then [0,1,2,3,8,9,12] else []))) else (
 bif Nat.blt f 7 then (
  bif Nat.beq f 5 then [0,1,2,3,8,9,23] else []) else (
  bif Nat.blt f 8 then (
   bif Nat.beq f 7 then [0,1,2,3,8,32] else []) else (
   bif Nat.beq f 8 then [0,1,2,8] else [])))
def ct51 (f : Nat) : Bool := false
def P51_0 (R : RT) (n0 ro rt : Nat) (t0 t1 t2 t3 : AV) (s : Sto) (QR : QT) : Prop := Wp (env R) (LFE (env R) 51 n0 ro rt) 45 [.cell 8 25] (sub b51 []) [] [(0,t0),(1,t1),(2,t2),(3,t3)] s QR
def P51_1 (R : RT) (n0 ro rt : Nat) (t0 t1 t2 t8 : AV) (s : Sto) (QR : QT) : Prop := Wp (env R) (LFE (env R) 51 n0 ro rt) 45 [.cell 8 25] (sub b51 [1,1]) [] [(0,t0),(1,t1),(2,t2),(8,t8)] s QR
theorem p51_0 {t0 t1 t2 t3 : AV} (h :
 wNew s [(I64 0),(SS []),(I64 0),(.capped [])] fun a8 s1x0 =>
 wCall (env R) (LFE (env R) 51 n0 ro rt) (.func (.func 44) [] []) [t0,(I64 6)] s1x0 fun a11 s1x1 =>
 wInt .i64 .lss a11 (I64 2) fun a14 =>
 wGK a14 true s1x1 (fun K => K t3 s1x1) fun a16 s1x2 =>
 wGK a14 true s1x2 (fun K => wInt .i64 .gtr a16 (I64 0) fun a17 => K a17 s1x2) fun a17x3 s1x4 =>
 wPick a14 a17x3 (BB false) fun a18 =>
 wCond a18 (
 wCall (env R) (LFE (env R) 51 n0 ro rt) (.func (.func 44) [] []) [t0,t3] s1x4 fun a21 s1x5 =>
 wCall (env R) (LFE (env R) 51 n0 ro rt) (.func (.func 35) [] []) [a21] s1x5 fun a22 s1x6 =>
 wSt (LFE (env R) 51 n0 ro rt) s1x6 4 a8 a22 fun s1x7 =>
 wLd (env R) s1x7 (some 4) a8 fun r =>
 QR r s1x7) (
 wInt .i64 .leq t2 (I64 0) fun a25 =>
 wCond a25 (
 wLd (env R) s1x4 none (.gptr 4 0) fun a26 =>
 wCall (env R) (LFE (env R) 51 n0 ro rt) (.func (.func 44) [] []) [t0,(I64 4)] s1x4 fun a28 s1x8 =>
 wIdx s1x8 1 a26 a28 fun a29 =>
 wLd (env R) s1x8 none a29 fun a30 =>
 wCall (env R) (LFE (env R) 51 n0 ro rt) (.func (.func 36) [] []) [a30,(.capped [])] s1x8 fun a31 s1x9 =>
 wSt (LFE (env R) 51 n0 ro rt) s1x9 4 a8 a31 fun s1x10 =>
(wLd (env R) s1x8 none (.gptr 4 0) fun v => eqA v a26 = true) ∧
 wLd (env R) s1x10 (some 4) a8 fun rx11 =>
 QR rx11 s1x10) (
 wInt .i64 .lss a11 (I64 4) fun a34 =>
 wCond a34 (
 wCall (env R) (LFE (env R) 51 n0 ro rt) (.func (.func 48) [] []) [t0,t1,t2,t3] s1x4 fun a39 s1x12 =>
 wSt (LFE (env R) 51 n0 ro rt) s1x12 4 a8 a39 fun s1x13 =>
 wLd (env R) s1x13 (some 4) a8 fun rx14 =>
 QR rx14 s1x13) (
 P51_1 R n0 ro rt t0 t1 t2 a8 s1x4 QR)))) : P51_0 R n0 ro rt t0 t1 t2 t3 s QR :=
  wpc_mp (lv := lv51) (ct := ct51) _ _ _ _ h (by kernel_rfl)
theorem p51_1 {t0 t1 t2 t8 : AV} (h :
 wInt .i64 .sub t2 (I64 1) fun a43 =>
 wCall (env R) (LFE (env R) 51 n0 ro rt) (.func (.func 26) [] []) [t0,t1,a43,(I64 0)] s fun a44 s1x0 =>
 wSt (LFE (env R) 51 n0 ro rt) s1x0 4 t8 a44 fun s1x1 =>
 wLd (env R) s1x1 (some 4) t8 fun r =>
 QR r s1x1) : P51_1 R n0 ro rt t0 t1 t2 t8 s QR :=
  wpc_mp (lv := lv51) (ct := ct51) _ _ _ _ h (by kernel_rfl)
theorem m51 {R : RT} {t0 t1 t2 t3 : AV} {L : Lim} {s : Sto} {Post : AV → Sto → Prop} (hn : noIdL [t0,t1,t2,t3] = false) (h : P51_0 R 0 L.ro L.rt t0 t1 t2 t3 s (QM (L.rr 51) s.bs.length Post)) : ∃ v s',Post v s' ∧ CallE (env R) L 51 [t0,t1,t2,t3] s v s' :=
  call_im (fn := Tryz.f51) (body := b51) Tryz.func51 (by kernel_rfl) (by kernel_rfl) (by kernel_rfl) (Nat.le_of_ble_eq_true (by kernel_rfl)) hn (mpK h (by kernel_rfl))
noncomputable def b19 : Code := Tryz.f19.body.getD .skip
def lv19 (f : Nat) : List Nat := bif Nat.blt f 15 then (
 bif Nat.blt f 9 then (
  bif Nat.blt f 4 then (
   bif Nat.blt f 2 then (
    bif Nat.beq f 1 then [0,1,4] else []) else (
    bif Nat.blt f 3 then (
     bif Nat.beq f 2 then [0,1,4,5] else []) else (
     bif Nat.beq f 3 then [0,1,4,5,12] else []))) else (
   bif Nat.blt f 6 then (
    bif Nat.beq f 4 then [0,1,4,5,12,13] else []) else (
    bif Nat.blt f 8 then (
     bif Nat.beq f 6 then [0,1,4,5,12,18] else []) else (
     bif Nat.beq f 8 then [0,1,4,5,23] else [])))) else (
  bif Nat.blt f 12 then (
   bif Nat.blt f 10 then (
    bif Nat.beq f 9 then [0,1,4,5] else []) else (
    bif Nat.blt f 11 then (
     bif Nat.beq f 10 then [0,1,4,5,35] else []) else (
     bif Nat.beq f 11 then [0,1,4,5] else []))) else (
   bif Nat.blt f 13 then (
    bif Nat.beq f 12 then [0,1,4,5,41] else []) else (
    bif Nat.blt f 14 then (
     bif Nat.beq f 13 then [0,1,4,5] else []) else (
     bif Nat.beq f 14 then [0,1,4,5,6] else []))))) else (
 bif Nat.blt f 22 then (
  bif Nat.blt f 19 then (
   bif Nat.blt f 16 then (
    bif Nat.beq f 15 then [0,1,4,5,6,51] else []) else (
    bif Nat.blt f 17 then (
     bif Nat.beq f 16 then [0,1,4,5,6,51,52] else []) else (
     bif Nat.beq f 17 then [0,1,4,5,6,51,52] else []))) else (
   bif Nat.blt f 20 then (
    bif Nat.beq f 19 then [0,1,4,5,6,51,57] else []) else (
    bif Nat.blt f 21 then (
     bif Nat.beq f 20 then [0,1,4,5,6,57] else []) else (
     bif Nat.beq f 21 then [0,1,4,5,6] else [])))) else (
  bif Nat.blt f 25 then (
   bif Nat.blt f 23 then (
    bif Nat.beq f 22 then [0,1,4,5,6,62] else []) else (
    bif Nat.blt f 24 then (
     bif Nat.beq f 23 then [0,1,4,5,6] else []) else (
     bif Nat.beq f 24 then [0,1,4,5,6,7] else []))) else (
   bif Nat.blt f 26 then (
    bif Nat.beq f 25 then [0,1,4,5,6,7] else []) else (
    bif Nat.blt f 27 then (
     bif Nat.beq f 26 then [0,1,4,5,6,7] else []) else (
     bif Nat.beq f 27 then [4,5] else [])))))
def ct19 (f : Nat) : Bool := false
def P19_0 (R : RT) (n0 ro rt : Nat) (t0 t1 : AV) (s : Sto) (QR : QT) : Prop := Wp (env R) (LFE (env R) 19 n0 ro rt) 84 [.cell 4 25] (sub b19 []) [] [(0,t0),(1,t1)] s QR
def P19_1 (R : RT) (n0 ro rt : Nat) (t0 t1 t4 t5 : AV) (s : Sto) (QR : QT) : Prop := Wp (env R) (LFE (env R) 19 n0 ro rt) 84 [.cell 4 25] (sub b19 [1,1,1]) [] [(0,t0),(1,t1),(4,t4),(5,t5)] s QR
def P19_2 (R : RT) (n0 ro rt : Nat) (t0 t1 t4 t5 : AV) (s : Sto) (QR : QT) : Prop := Wp (env R) (LFE (env R) 19 n0 ro rt) 84 [.cell 4 25] (sub b19 [1,1,1,1]) [] [(0,t0),(1,t1),(4,t4),(5,t5)] s QR
def P19_3 (R : RT) (n0 ro rt : Nat) (t0 t1 t4 t5 : AV) (s : Sto) (QR : QT) : Prop := Wp (env R) (LFE (env R) 19 n0 ro rt) 84 [.cell 4 25] (sub b19 [1,1,1,1,1]) [] [(0,t0),(1,t1),(4,t4),(5,t5)] s QR
def P19_4 (R : RT) (n0 ro rt : Nat) (t0 t1 t4 t5 t6 t51 t52 : AV) (s : Sto) (QR : QT) : Prop := Wp (env R) (LFE (env R) 19 n0 ro rt) 84 [.cell 4 25] (sub b19 [1,1,1,1,1,1,0,1,0,1]) [.blk 1,.seq (sub b19 [1,1,1,1,1,1,1])] [(0,t0),(1,t1),(4,t4),(5,t5),(6,t6),(51,t51),(52,t52)] s QR
def P19_5 (R : RT) (n0 ro rt : Nat) (t0 t1 t4 t5 t6 : AV) (s : Sto) (QR : QT) : Prop := Wp (env R) (LFE (env R) 19 n0 ro rt) 84 [.cell 4 25] (sub b19 [1,1,1,1,1,1,1]) [] [(0,t0),(1,t1),(4,t4),(5,t5),(6,t6)] s QR
def P19_6 (R : RT) (n0 ro rt : Nat) (t0 t1 t4 t5 t6 t57 : AV) (s : Sto) (QR : QT) : Prop := Wp (env R) (LFE (env R) 19 n0 ro rt) 84 [.cell 4 25] (sub b19 [1,1,1,1,1,1,0,1,0,1,1,1]) [.blk 1,.seq (sub b19 [1,1,1,1,1,1,1])] [(0,t0),(1,t1),(4,t4),(5,t5),(6,t6),(57,t57)] s QR
def P19_7 (R : RT) (n0 ro rt : Nat) (t0 t1 t4 t5 t6 : AV) (s : Sto) (QR : QT) : Prop := Wp (env R) (LFE (env R) 19 n0 ro rt) 84 [.cell 4 25] (sub b19 [1,1,1,1,1,1,1,1]) [] [(0,t0),(1,t1),(4,t4),(5,t5),(6,t6)] s QR
def P19_8 (R : RT) (n0 ro rt : Nat) (t0 t1 t4 t5 t6 t7 : AV) (s : Sto) (QR : QT) : Prop := Wp (env R) (LFE (env R) 19 n0 ro rt) 84 [.cell 4 25] (.loop (sub b19 [1,1,1,1,1,1,1,1,0,1,0,0])) [.blk 2,.seq (sub b19 [1,1,1,1,1,1,1,1,1])] [(0,t0),(1,t1),(4,t4),(5,t5),(6,t6),(7,t7)] s QR
def P19_9 (R : RT) (n0 ro rt : Nat) (t0 t1 t4 t5 t6 t7 : AV) (s : Sto) (QR : QT) : Prop := Wp (env R) (LFE (env R) 19 n0 ro rt) 84 [.cell 4 25] (sub b19 [1,1,1,1,1,1,1,1,0,1,0,0,1]) [.loop (sub b19 [1,1,1,1,1,1,1,1,0,1,0,0]),.blk 2,.seq (sub b19 [1,1,1,1,1,1,1,1,1])] [(0,t0),(1,t1),(4,t4),(5,t5),(6,t6),(7,t7)] s QR
def P19_10 (R : RT) (n0 ro rt : Nat) (t4 t5 : AV) (s : Sto) (QR : QT) : Prop := Wp (env R) (LFE (env R) 19 n0 ro rt) 84 [.cell 4 25] (sub b19 [1,1,1,1,1,1,1,1,1]) [] [(4,t4),(5,t5)] s QR
def P19_11 (R : RT) (n0 ro rt : Nat) (t0 t1 t4 t5 t6 t7 : AV) (s : Sto) (QR : QT) : Prop := Wp (env R) (LFE (env R) 19 n0 ro rt) 84 [.cell 4 25] (sub b19 [1,1,1,1,1,1,1,1,0,1,0,0,1,1]) [.loop (sub b19 [1,1,1,1,1,1,1,1,0,1,0,0]),.blk 2,.seq (sub b19 [1,1,1,1,1,1,1,1,1])] [(0,t0),(1,t1),(4,t4),(5,t5),(6,t6),(7,t7)] s QR
theorem p19_0 {t0 t1 : AV} (h :
 wNew s [(I64 0),(SS []),(I64 0),(.capped [])] fun a4 s1x0 =>
 wCall (env R) (LFE (env R) 19 n0 ro rt) (.func (.func 44) [] []) [t0,(I64 7)] s1x0 fun a9 s1x1 =>
 wBuild [(I64 0),(SS []),(I64 0),(.capped [])] [(0,1,a9)] fun a10 =>
 wNew s1x1 [(I64 0),(SS []),(I64 0),(.capped [])] fun a5 s1x2 =>
 wSt (LFE (env R) 19 n0 ro rt) s1x2 4 a5 a10 fun s1x3 =>
 wCall (env R) (LFE (env R) 19 n0 ro rt) (.func (.func 44) [] []) [t0,(I64 12)] s1x3 fun a12 s1x4 =>
 wInt .i64 .eql a12 (I64 9) fun a14 =>
 wCond a14 (
 wCall (env R) (LFE (env R) 19 n0 ro rt) (.func (.func 45) [] []) [t0] s1x4 fun a16 s1x5 =>
 wFad s1x5 a5 0 fun a17 =>
 wSt (LFE (env R) 19 n0 ro rt) s1x5 1 a17 a16 fun s1x6 =>
 P19_1 R n0 ro rt t0 t1 a4 a5 s1x6 QR) (
 wInt .i64 .eql a12 (I64 10) fun a19 =>
 wCond a19 (
 wCall (env R) (LFE (env R) 19 n0 ro rt) (.func (.func 45) [] []) [t0] s1x4 fun a21 s1x7 =>
 wFad s1x7 a5 2 fun a22 =>
 wSt (LFE (env R) 19 n0 ro rt) s1x7 1 a22 a21 fun s1x8 =>
 P19_1 R n0 ro rt t0 t1 a4 a5 s1x8 QR) (
 wInt .i64 .eql a12 (I64 11) fun a24 =>
 wCond a24 (
 wLd (env R) s1x4 none (.gptr 0 0) fun a25 =>
 wLd (env R) s1x4 none (.gptr 0 0) fun a27 =>
 wLen s1x4 a27 fun a28 =>
 wCall (env R) (LFE (env R) 19 n0 ro rt) (.func (.func 44) [] []) [t0,a28] s1x4 fun a29 s1x9 =>
 wIdx s1x9 1 a25 a29 fun a30 =>
 wLd (env R) s1x9 none a30 fun a31 =>
 wFad s1x9 a5 1 fun a32 =>
 wSt (LFE (env R) 19 n0 ro rt) s1x9 1 a32 a31 fun s1x10 =>
(wLd (env R) s1x9 none (.gptr 0 0) fun v => eqA v a25 = true) ∧
 P19_1 R n0 ro rt t0 t1 a4 a5 s1x10 QR) (
 P19_1 R n0 ro rt t0 t1 a4 a5 s1x4 QR)))) : P19_0 R n0 ro rt t0 t1 s QR :=
  wpc_mp (lv := lv19) (ct := ct19) _ _ _ _ h (by kernel_rfl)
theorem p19_1 {t0 t1 t4 t5 : AV} (h :
 wFad s t5 0 fun a33 =>
 wLd (env R) s none a33 fun a34 =>
 wInt .i64 .eql a34 (I64 5) fun a35 =>
 wCond a35 (
 wCall (env R) (LFE (env R) 19 n0 ro rt) (.func (.func 44) [] []) [t0,(I64 4)] s fun a37 s1x0 =>
 wFad s1x0 t5 2 fun a38 =>
 wSt (LFE (env R) 19 n0 ro rt) s1x0 1 a38 a37 fun s1x1 =>
 P19_2 R n0 ro rt t0 t1 t4 t5 s1x1 QR) (
 P19_2 R n0 ro rt t0 t1 t4 t5 s QR)) : P19_1 R n0 ro rt t0 t1 t4 t5 s QR :=
  wpc_mp (lv := lv19) (ct := ct19) _ _ _ _ h (by kernel_rfl)
theorem p19_2 {t0 t1 t4 t5 : AV} (h :
 wFad s t5 0 fun a39 =>
 wLd (env R) s none a39 fun a40 =>
 wInt .i64 .eql a40 (I64 2) fun a41 =>
 wCond a41 (
 wLd (env R) s none (.gptr 0 0) fun a42 =>
 wLd (env R) s none (.gptr 0 0) fun a44 =>
 wLen s a44 fun a45 =>
 wCall (env R) (LFE (env R) 19 n0 ro rt) (.func (.func 44) [] []) [t0,a45] s fun a46 s1x0 =>
 wIdx s1x0 1 a42 a46 fun a47 =>
 wLd (env R) s1x0 none a47 fun a48 =>
 wFad s1x0 t5 1 fun a49 =>
 wSt (LFE (env R) 19 n0 ro rt) s1x0 1 a49 a48 fun s1x1 =>
(wLd (env R) s1x0 none (.gptr 0 0) fun v => eqA v a42 = true) ∧
 P19_3 R n0 ro rt t0 t1 t4 t5 s1x1 QR) (
 P19_3 R n0 ro rt t0 t1 t4 t5 s QR)) : P19_2 R n0 ro rt t0 t1 t4 t5 s QR :=
  wpc_mp (lv := lv19) (ct := ct19) _ _ _ _ h (by kernel_rfl)
theorem p19_3 {t0 t1 t4 t5 : AV} (h :
 wFad s t5 0 fun a50 =>
 wLd (env R) s none a50 fun a51 =>
 wInt .i64 .eql a51 (I64 2) fun a53 =>
 wCond a53 (
 P19_4 R n0 ro rt t0 t1 t4 t5 (I64 0) a51 a53 s QR) (
 wInt .i64 .eql a51 (I64 3) fun a54 =>
 P19_4 R n0 ro rt t0 t1 t4 t5 (I64 0) a51 a54 s QR)) : P19_3 R n0 ro rt t0 t1 t4 t5 s QR :=
  wpc_mp (lv := lv19) (ct := ct19) _ _ _ _ h (by kernel_rfl)
theorem p19_4 {t0 t1 t4 t5 t6 t51 t52 : AV} (h :
 wCond t52 (
 wCall (env R) (LFE (env R) 19 n0 ro rt) (.func (.func 44) [] []) [t0,(I64 3)] s fun a56 s1x0 =>
 P19_5 R n0 ro rt t0 t1 t4 t5 a56 s1x0 QR) (
 wInt .i64 .eql t51 (I64 4) fun a58 =>
 wCond a58 (
 P19_6 R n0 ro rt t0 t1 t4 t5 t6 a58 s QR) (
 wInt .i64 .eql t51 (I64 6) fun a59 =>
 P19_6 R n0 ro rt t0 t1 t4 t5 t6 a59 s QR))) : P19_4 R n0 ro rt t0 t1 t4 t5 t6 t51 t52 s QR :=
  wpc_mp (lv := lv19) (ct := ct19) _ _ _ _ h (by kernel_rfl)
theorem p19_5 {t0 t1 t4 t5 t6 : AV} (h :
 wCall (env R) (LFE (env R) 19 n0 ro rt) (.func (.func 44) [] []) [t0,(I64 10)] s fun a61 s1x0 =>
 wInt .i64 .eql a61 (I64 9) fun a62 =>
 wCond a62 (
 wCall (env R) (LFE (env R) 19 n0 ro rt) (.func (.func 44) [] []) [t0,(I64 9)] s1x0 fun a64 s1x1 =>
 P19_7 R n0 ro rt t0 t1 t4 t5 a64 s1x1 QR) (
 P19_7 R n0 ro rt t0 t1 t4 t5 t6 s1x0 QR)) : P19_5 R n0 ro rt t0 t1 t4 t5 t6 s QR :=
  wpc_mp (lv := lv19) (ct := ct19) _ _ _ _ h (by kernel_rfl)
theorem p19_6 {t0 t1 t4 t5 t6 t57 : AV} (h :
 wCond t57 (
 P19_5 R n0 ro rt t0 t1 t4 t5 (I64 2) s QR) (
 P19_5 R n0 ro rt t0 t1 t4 t5 t6 s QR)) : P19_6 R n0 ro rt t0 t1 t4 t5 t6 t57 s QR :=
  wpc_mp (lv := lv19) (ct := ct19) _ _ _ _ h (by kernel_rfl)
theorem p19_7 {t0 t1 t4 t5 t6 : AV} (h :
 P19_8 R n0 ro rt t0 t1 t4 t5 t6 (I64 0) s QR) : P19_7 R n0 ro rt t0 t1 t4 t5 t6 s QR :=
  wpc_mp (lv := lv19) (ct := ct19) _ _ _ _ h (by kernel_rfl)
theorem p19_8 {t0 t1 t4 t5 t6 t7 : AV} (h :
 wInt .i64 .lss t7 t6 fun a67 =>
 wGK a67 true s (fun K => K t1 s) fun a69 s1x0 =>
 wGK a67 true s1x0 (fun K => wInt .i64 .gtr a69 (I64 0) fun a70 => K a70 s1x0) fun a70x1 s1x2 =>
 wPick a67 a70x1 (BB false) fun a71 =>
 wCond a71 (
 P19_9 R n0 ro rt t0 t1 t4 t5 t6 t7 s1x2 QR) (
 P19_10 R n0 ro rt t4 t5 s1x2 QR)) : P19_8 R n0 ro rt t0 t1 t4 t5 t6 t7 s QR :=
  wpl_mp (lv := lv19) (ct := ct19) _ _ _ _ h (by kernel_rfl)
theorem p19_9 {t0 t1 t4 t5 t6 t7 : AV} (h :
 wFad s t5 3 fun a74 =>
 wLd (env R) s none a74 fun a75 =>
 wInt .i64 .sub t1 (I64 1) fun a78 =>
 wCall (env R) (LFE (env R) 19 n0 ro rt) (.func (.func 19) [] []) [t0,a78] s fun a79 s1x0 =>
 wBsl false s1x0 4 [(I64 0),(SS []),(I64 0),(.capped [])] 1 [(0,4,a79)] fun a80 s1x1 =>
(4 = 4 ∧ 4 ≠ 0) ∧ wApp false (LFE (env R) 19 n0 ro rt) s1x0 25 4 56 a75 a80 fun a81 s1x2 =>
 wFad s1x2 t5 3 fun a82 =>
 wSt (LFE (env R) 19 n0 ro rt) s1x2 1 a82 a81 fun s1x3 =>
(wFad s1x0 t5 3 fun v => eqA v a74 = true) ∧
(wLd (env R) s1x0 none a74 fun vx4 => eqA vx4 a75 = true) ∧
 P19_11 R n0 ro rt t0 t1 t4 t5 t6 t7 s1x3 QR) : P19_9 R n0 ro rt t0 t1 t4 t5 t6 t7 s QR :=
  wpc_mp (lv := lv19) (ct := ct19) _ _ _ _ h (by kernel_rfl)
theorem p19_10 {t4 t5 : AV} (h :
 wLd (env R) s (some 4) t5 fun a83 =>
 wSt (LFE (env R) 19 n0 ro rt) s 4 t4 a83 fun s1x0 =>
 wLd (env R) s1x0 (some 4) t4 fun r =>
 QR r s1x0) : P19_10 R n0 ro rt t4 t5 s QR :=
  wpc_mp (lv := lv19) (ct := ct19) _ _ _ _ h (by kernel_rfl)
theorem p19_11 {t0 t1 t4 t5 t6 t7 : AV} (h :
 wInt .i64 .add t7 (I64 1) fun a73 =>
 P19_8 R n0 ro rt t0 t1 t4 t5 t6 a73 s QR) : P19_11 R n0 ro rt t0 t1 t4 t5 t6 t7 s QR :=
  wpc_mp (lv := lv19) (ct := ct19) _ _ _ _ h (by kernel_rfl)
theorem m19 {R : RT} {t0 t1 : AV} {L : Lim} {s : Sto} {Post : AV → Sto → Prop} (hn : noIdL [t0,t1] = false) (h : P19_0 R 0 L.ro L.rt t0 t1 s (QM (L.rr 19) s.bs.length Post)) : ∃ v s',Post v s' ∧ CallE (env R) L 19 [t0,t1] s v s' :=
  call_im (fn := Tryz.f19) (body := b19) Tryz.func19 (by kernel_rfl) (by kernel_rfl) (by kernel_rfl) (Nat.le_of_ble_eq_true (by kernel_rfl)) hn (mpK h (by kernel_rfl))
noncomputable def b4 : Code := Tryz.f4.body.getD .skip
def lv4 (f : Nat) : List Nat := bif Nat.blt f 2 then (
 bif Nat.beq f 1 then [0,1] else []) else (
 bif Nat.blt f 3 then (
  bif Nat.beq f 2 then [1,5] else []) else (
  bif Nat.beq f 3 then [6,7] else []))
def ct4 (f : Nat) : Bool := false
def P4_0 (R : RT) (n0 ro rt : Nat) (t0 t1 : AV) (s : Sto) (QR : QT) : Prop := Wp (env R) (LFE (env R) 4 n0 ro rt) 32 [.tmp 4] (sub b4 []) [] [(0,t0),(1,t1)] s QR
theorem p4_0 {t0 t1 : AV} (h :
 wCall (env R) (LFE (env R) 4 n0 ro rt) (.func (.func 8) [] []) [t0] s fun a9 s1x0 =>
 wCall (env R) (LFE (env R) 4 n0 ro rt) (.func (.func 17) [] []) [] s1x0 fun a11 s1x1 =>
 wCall (env R) (LFE (env R) 4 n0 ro rt) (.func (.func 18) [] []) [t1,(I64 4)] s1x1 fun a13 s1x2 =>
 wCall (env R) (LFE (env R) 4 n0 ro rt) (.func (.func 16) [] []) [a9,a11,a13] s1x2 fun a14 s1x3 =>
 wCall (env R) (LFE (env R) 4 n0 ro rt) (.func (.func 19) [] []) [a9,(I64 4)] s1x3 fun a16 s1x4 =>
 wNew s1x4 [(I64 0),(SS []),(I64 0),(.capped [])] fun a6 s1x5 =>
 wNew s1x5 [(I64 0),(SS []),(I64 0),(.capped [])] fun a7 s1x6 =>
 wSt (LFE (env R) 4 n0 ro rt) s1x6 4 a6 a14 fun s1x7 =>
 wSt (LFE (env R) 4 n0 ro rt) s1x7 4 a7 a16 fun s1x8 =>
 wCall (env R) (LFE (env R) 4 n0 ro rt) (.func (.func 11) [] []) [] s1x8 fun a17 s1x9 =>
 wGK a17 true s1x9 (fun K => wLd (env R) s1x9 (some 4) a6 fun a19 => K a19 s1x9) fun a19x10 s1x11 =>
 wGK a17 true s1x9 (fun K => wCall (env R) (LFE (env R) 4 n0 ro rt) (.func (.func 10) [] []) [a19x10] s1x9 fun a20 s1x12 => K a20 s1x12) fun a20x13 s1x14 =>
 wGK a17 true s1x14 (fun K => wLd (env R) s1x14 (some 4) a6 fun a21 => K a21 s1x14) fun a21x15 s1x16 =>
 wGK a17 true s1x14 (fun K => wCall (env R) (LFE (env R) 4 n0 ro rt) (.func (.func 12) [] []) [a21x15] s1x14 fun a22 s1x17 => K a22 s1x17) fun a22x18 s1x19 =>
 wGK a17 true s1x19 (fun K => wStr .eql a20x13 a22x18 fun a23 => K a23 s1x19) fun a23x20 s1x21 =>
 wPick a17 a23x20 (BB false) fun a24 =>
 wGK a24 true s1x19 (fun K => wLd (env R) s1x19 (some 4) a7 fun a26 => K a26 s1x19) fun a26x22 s1x23 =>
 wGK a24 true s1x19 (fun K => wCall (env R) (LFE (env R) 4 n0 ro rt) (.func (.func 10) [] []) [a26x22] s1x19 fun a27 s1x24 => K a27 s1x24) fun a27x25 s1x26 =>
 wGK a24 true s1x26 (fun K => wLd (env R) s1x26 (some 4) a7 fun a28 => K a28 s1x26) fun a28x27 s1x28 =>
 wGK a24 true s1x26 (fun K => wCall (env R) (LFE (env R) 4 n0 ro rt) (.func (.func 12) [] []) [a28x27] s1x26 fun a29 s1x29 => K a29 s1x29) fun a29x30 s1x31 =>
 wGK a24 true s1x31 (fun K => wStr .eql a27x25 a29x30 fun a30 => K a30 s1x31) fun a30x32 s1x33 =>
 wPick a24 a30x32 (BB false) fun a31 =>
(wGK a17 true s1x9 (fun K => wLd (env R) s1x9 (some 4) a6 fun v => K v s1x9) fun vx34 s1x35 => eqA vx34 a21x15 = true) ∧
(wGK a24 true s1x19 (fun K => wLd (env R) s1x19 (some 4) a7 fun vx36 => K vx36 s1x19) fun vx37 s1x38 => eqA vx37 a28x27 = true) ∧
 QR a31 s1x31) : P4_0 R n0 ro rt t0 t1 s QR :=
  wpc_mp (lv := lv4) (ct := ct4) _ _ _ _ h (by kernel_rfl)
theorem e4 {R : RT} {t0 t1 : AV} {u0 u1 : AV} {Post : AV → Prop} (hcl : closeL [] 0 0 [t0,t1] = some [u0,u1]) (h : P4_0 R 0 0 0 u0 u1 ⟨[],[]⟩ (QP Post)) : PureC (env R) 4 [t0,t1] Post :=
  call_rd (fn := Tryz.f4) (body := b4) Tryz.func4 (by kernel_rfl) (by kernel_rfl) (by kernel_rfl) (Nat.le_of_ble_eq_true (by kernel_rfl)) hcl (mpK h (by kernel_rfl))
end Go.Proofs.YtmipbilokjkjiaaGreatDoor
