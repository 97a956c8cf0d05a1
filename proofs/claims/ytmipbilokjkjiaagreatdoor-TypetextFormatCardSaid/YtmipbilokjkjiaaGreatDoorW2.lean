/-
  What the points of some functions' code need: written by a program (wip/tel/GenW.lean.txt).
-/
import Derived.Test.YtmipbilokjkjiaaGreatDoorTab
import Derived.Test.YtmipbilokjkjiaaGreatDoorWvF
set_option linter.unusedSimpArgs false
set_option linter.unusedVariables false
namespace Go.Proofs.YtmipbilokjkjiaaGreatDoor
open Go.Tel
variable {R : RT} {n0 ro rt : Nat} {s : Sto} {QR : QT}
noncomputable def b10 : Code := Tryz.f10.body.getD .skip
def lv10 (f : Nat) : List Nat := bif Nat.blt f 3 then (
 bif Nat.blt f 2 then (
  bif Nat.beq f 1 then [1] else []) else (
  bif Nat.beq f 2 then [1,6] else [])) else (
 bif Nat.blt f 4 then (
  bif Nat.beq f 3 then [1] else []) else (
  bif Nat.blt f 5 then (
   bif Nat.beq f 4 then [1,3] else []) else (
   bif Nat.beq f 5 then [3] else [])))
def ct10 (f : Nat) : Bool := false
def P10_0 (R : RT) (n0 ro rt : Nat) (t0 : AV) (s : Sto) (QR : QT) : Prop := Wp (env R) (LFE (env R) 10 n0 ro rt) 18 [.tmp 2] (sub b10 []) [] [(0,t0)] s QR
def P10_1 (R : RT) (n0 ro rt : Nat) (t1 : AV) (s : Sto) (QR : QT) : Prop := Wp (env R) (LFE (env R) 10 n0 ro rt) 18 [.tmp 2] (sub b10 [1,1]) [] [(1,t1)] s QR
theorem p10_0 {t0 : AV} (h :
 wBox s t0 fun a1 s1x0 =>
 wLd (env R) s1x0 (some 4) a1 fun a4 =>
 wCall (env R) (LFE (env R) 10 n0 ro rt) (.func (.func 28) [] []) [a4] s1x0 fun a5 s1x1 =>
 wInt .i64 .neq a5 (I64 0) fun a6 =>
 wCond a6 (
 QR (SS []) s1x1) (
 P10_1 R n0 ro rt a1 s1x1 QR)) : P10_0 R n0 ro rt t0 s QR :=
  wpc_mp (lv := lv10) (ct := ct10) _ _ _ _ h (by kernel_rfl)
theorem p10_1 {t1 : AV} (h :
 wLd (env R) s (some 4) t1 fun a7 =>
 wCall (env R) (LFE (env R) 10 n0 ro rt) (.func (.func 29) [] []) [a7] s fun a8 s1x0 =>
 wBuild [(.pv (.sc (.pointer none))),(.capped []),(.capped [])] [(2,1,a8)] fun a9 =>
 wBoxZ s1x0 71 a9 fun a10 s1x1 =>
 wLd (env R) s1x1 (some 4) t1 fun a12 =>
 wCall (env R) (LFE (env R) 10 n0 ro rt) (.func (.func 30) [] []) [a10,a12,(.capped [])] s1x1 fun a13 s1x2 =>
 wNil s1x2 a10 fun a15 =>
 wFad s1x2 a15 0 fun a16 =>
 wCall (env R) (LFE (env R) 10 n0 ro rt) (.func (.func 31) [] []) [a16] s1x2 fun a17 s1x3 =>
 QR a17 s1x3) : P10_1 R n0 ro rt t1 s QR :=
  wpc_mp (lv := lv10) (ct := ct10) _ _ _ _ h (by kernel_rfl)
theorem e10 {R : RT} {t0 : AV} {u0 : AV} {Post : AV → Prop} (hcl : closeL [] 0 0 [t0] = some [u0]) (h : P10_0 R 0 0 0 u0 ⟨[],[]⟩ (QP Post)) : PureC (env R) 10 [t0] Post :=
  call_rd (fn := Tryz.f10) (body := b10) Tryz.func10 (by kernel_rfl) (by kernel_rfl) (by kernel_rfl) (Nat.le_of_ble_eq_true (by kernel_rfl)) hcl (mpK h (by kernel_rfl))
noncomputable def b29 : Code := Tryz.f29.body.getD .skip
def lv29 (f : Nat) : List Nat := bif Nat.blt f 2 then (
 bif Nat.beq f 1 then [1] else []) else (
 bif Nat.blt f 3 then (
  bif Nat.beq f 2 then [1,3] else []) else (
  bif Nat.beq f 3 then [3] else []))
def ct29 (f : Nat) : Bool := false
def P29_0 (R : RT) (n0 ro rt : Nat) (t0 : AV) (s : Sto) (QR : QT) : Prop := Wp (env R) (LFE (env R) 29 n0 ro rt) 8 [.tmp 2] (sub b29 []) [] [(0,t0)] s QR
theorem p29_0 {t0 : AV} (h :
 wBox s t0 fun a1 s1x0 =>
 wNew s1x0 [(.capped [])] fun a3 s1x1 =>
 wLd (env R) s1x1 (some 4) a1 fun a4 =>
 wCall (env R) (LFE (env R) 29 n0 ro rt) (.func (.func 55) [] []) [a4,a3] s1x1 fun a5 s1x2 =>
 wFad s1x2 a3 0 fun a6 =>
 wLd (env R) s1x2 none a6 fun a7 =>
 QR a7 s1x2) : P29_0 R n0 ro rt t0 s QR :=
  wpc_mp (lv := lv29) (ct := ct29) _ _ _ _ h (by kernel_rfl)
theorem e29 {R : RT} {t0 : AV} {u0 : AV} {Post : AV → Prop} (hcl : closeL [] 0 0 [t0] = some [u0]) (h : P29_0 R 0 0 0 u0 ⟨[],[]⟩ (QP Post)) : PureC (env R) 29 [t0] Post :=
  call_rd (fn := Tryz.f29) (body := b29) Tryz.func29 (by kernel_rfl) (by kernel_rfl) (by kernel_rfl) (Nat.le_of_ble_eq_true (by kernel_rfl)) hcl (mpK h (by kernel_rfl))
noncomputable def b30 : Code := Tryz.f30.body.getD .skip
def lv30 (f : Nat) : List Nat := bif Nat.blt f 16 then (
 bif Nat.blt f 7 then (
  bif Nat.blt f 3 then (
   bif Nat.blt f 2 then (
    bif Nat.beq f 1 then [0,2,4] else []) else (
    bif Nat.beq f 2 then [0,2,4,9] else [])) else (
   bif Nat.blt f 5 then (
    bif Nat.beq f 3 then [0,2,4,9,10] else []) else (
    bif Nat.beq f 5 then [0,2,4,9,16] else []))) else (
  bif Nat.blt f 11 then (
   bif Nat.blt f 9 then (
    bif Nat.beq f 7 then [0,2,4,9,22] else []) else (
    bif Nat.beq f 9 then [0,2,4,9,29] else [])) else (
   bif Nat.blt f 12 then (
    bif Nat.beq f 11 then [0,2,4,9,36] else []) else (
    bif Nat.blt f 13 then (
     bif Nat.beq f 12 then [0,2,4,6] else []) else (
     bif Nat.beq f 13 then [0,2,4,6,45] else []))))) else (
 bif Nat.blt f 20 then (
  bif Nat.blt f 18 then (
   bif Nat.blt f 17 then (
    bif Nat.beq f 16 then [0,2,4,9,65] else []) else (
    bif Nat.beq f 17 then [0,2,4,7] else [])) else (
   bif Nat.blt f 19 then (
    bif Nat.beq f 18 then [0,2,4,7] else []) else (
    bif Nat.beq f 19 then [0,2,4,7] else []))) else (
  bif Nat.blt f 23 then (
   bif Nat.blt f 21 then (
    bif Nat.beq f 20 then [0,2,4,7] else []) else (
    bif Nat.beq f 21 then [0] else [])) else (
   bif Nat.blt f 24 then (
    bif Nat.beq f 23 then [0,2,4,102] else []) else (
    bif Nat.blt f 25 then (
     bif Nat.beq f 24 then [0,2,4,107] else []) else (
     bif Nat.beq f 25 then [0,2,4] else [])))))
def ct30 (f : Nat) : Bool := false
def P30_0 (R : RT) (n0 ro rt : Nat) (t0 t1 t2 : AV) (s : Sto) (QR : QT) : Prop := Wp (env R) (LFE (env R) 30 n0 ro rt) 121 [] (sub b30 []) [] [(0,t0),(1,t1),(2,t2)] s QR
def P30_1 (R : RT) (n0 ro rt : Nat) (t0 t2 t4 : AV) (s : Sto) (QR : QT) : Prop := Wp (env R) (LFE (env R) 30 n0 ro rt) 121 [] (sub b30 [1,1,0,1,1,1,1,1,1,1,1,1,1,1,1,1,0,1]) [.blk 0] [(0,t0),(2,t2),(4,t4)] s QR
theorem p30_0 {t0 t1 t2 : AV} (h :
 wBox s t1 fun a4 s1x0 =>
 wFad s1x0 a4 0 fun a8 =>
 wLd (env R) s1x0 none a8 fun a9 =>
 wInt .i64 .eql a9 (I64 0) fun a11 =>
 wCond a11 (
 wNil s1x0 t0 fun a13 =>
 wFad s1x0 a13 0 fun a14 =>
 wCall (env R) (LFE (env R) 30 n0 ro rt) (.func (.func 56) [] []) [a14,(SS [65,110,121])] s1x0 fun a15 s1x1 =>
 QR (.tuple []) s1x1) (
 wInt .i64 .eql a9 (I64 1) fun a17 =>
 wCond a17 (
 wNil s1x0 t0 fun a19 =>
 wFad s1x0 a19 0 fun a20 =>
 wCall (env R) (LFE (env R) 30 n0 ro rt) (.func (.func 56) [] []) [a20,(SS [78,101,118,101,114])] s1x0 fun a21 s1x2 =>
 QR (.tuple []) s1x2) (
 wInt .i64 .eql a9 (I64 3) fun a23 =>
 wCond a23 (
 wFad s1x0 a4 3 fun a25 =>
 wLd (env R) s1x0 none a25 fun a26 =>
 wCall (env R) (LFE (env R) 30 n0 ro rt) (.func (.func 57) [] []) [t0,(SS [116,117,112,108,101]),a26,t2] s1x0 fun a28 s1x3 =>
 QR (.tuple []) s1x3) (
 wInt .i64 .eql a9 (I64 4) fun a30 =>
 wCond a30 (
 wFad s1x0 a4 3 fun a32 =>
 wLd (env R) s1x0 none a32 fun a33 =>
 wCall (env R) (LFE (env R) 30 n0 ro rt) (.func (.func 57) [] []) [t0,(SS [117,110,105,111,110]),a33,t2] s1x0 fun a35 s1x4 =>
 QR (.tuple []) s1x4) (
 wInt .i64 .eql a9 (I64 5) fun a37 =>
 wCond a37 (
 wLen s1x0 t2 fun a39 =>
 wInt .i64 .sub a39 (I64 1) fun a40 =>
 wFad s1x0 a4 2 fun a41 =>
 wLd (env R) s1x0 none a41 fun a42 =>
 wInt .i64 .sub a40 a42 fun a43 =>
 wInt .i64 .geq a43 (I64 0) fun a45 =>
 wCond a45 (
 wNil s1x0 t0 fun a47 =>
 wFad s1x0 a47 0 fun a48 =>
 wIdx s1x0 1 t2 a43 fun a51 =>
 wLd (env R) s1x0 none a51 fun a52 =>
 wCall (env R) (LFE (env R) 30 n0 ro rt) (.func (.func 56) [] []) [a48,a52] s1x0 fun a53 s1x5 =>
 QR (.tuple []) s1x5) (
 wNil s1x0 t0 fun a55 =>
 wFad s1x0 a55 0 fun a56 =>
 wFad s1x0 a4 2 fun a57 =>
 wLd (env R) s1x0 none a57 fun a58 =>
 wLen s1x0 t2 fun a60 =>
 wInt .i64 .sub a58 a60 fun a61 =>
 wCall (env R) (LFE (env R) 30 n0 ro rt) (.func (.func 58) [] []) [a61] s1x0 fun a62 s1x6 =>
 wStr .add (SS [36]) a62 fun a63 =>
 wCall (env R) (LFE (env R) 30 n0 ro rt) (.func (.func 56) [] []) [a56,a63] s1x6 fun a64 s1x7 =>
(wNil s1x6 t0 fun v => eqA v a55 = true) ∧
(wFad s1x6 a55 0 fun vx8 => eqA vx8 a56 = true) ∧
 QR (.tuple []) s1x7)) (
 wInt .i64 .eql a9 (I64 6) fun a66 =>
 wCond a66 (
 wCall (env R) (LFE (env R) 30 n0 ro rt) (.func (.func 59) [] []) [t0,t2] s1x0 fun a69 s1x9 =>
 wNil s1x9 t0 fun a71 =>
 wFad s1x9 a71 0 fun a72 =>
 wStr .add (SS [40,101,120,105,115,116,115,32]) a69 fun a74 =>
 wStr .add a74 (SS [32]) fun a75 =>
 wCall (env R) (LFE (env R) 30 n0 ro rt) (.func (.func 56) [] []) [a72,a75] s1x9 fun a76 s1x10 =>
 wFad s1x10 a4 3 fun a78 =>
 wLd (env R) s1x10 none a78 fun a79 =>
 wIdx s1x10 4 a79 (I64 0) fun a80 =>
 wLd (env R) s1x10 (some 4) a80 fun a81 =>
 wCall (env R) (LFE (env R) 30 n0 ro rt) (.func (.func 30) [] []) [t0,a81,(.capped [])] s1x10 fun a82 s1x11 =>
 wNil s1x11 t0 fun a84 =>
 wFad s1x11 a84 0 fun a85 =>
 wCall (env R) (LFE (env R) 30 n0 ro rt) (.func (.func 60) [] []) [a85,(.pv (.sc (.int .u8 32)))] s1x11 fun a86 s1x12 =>
 wFad s1x12 a4 3 fun a88 =>
 wLd (env R) s1x12 none a88 fun a89 =>
 wIdx s1x12 4 a89 (I64 1) fun a90 =>
 wLd (env R) s1x12 (some 4) a90 fun a91 =>
 wCall (env R) (LFE (env R) 30 n0 ro rt) (.func (.func 61) [] []) [t2] s1x12 fun a93 s1x13 =>
 wBsl false s1x13 1 [(SS [])] 1 [(0,1,a69)] fun a95 s1x14 =>
(1 = 1 ∧ 1 ≠ 0) ∧ wApp false (LFE (env R) 30 n0 ro rt) s1x13 9 1 16 a93 a95 fun a96 s1x15 =>
 wCall (env R) (LFE (env R) 30 n0 ro rt) (.func (.func 30) [] []) [t0,a91,a96] s1x15 fun a97 s1x16 =>
(wFad s1x13 a4 3 fun vx17 => eqA vx17 a88 = true) ∧
(wFad s1x15 a4 3 fun vx18 => eqA vx18 a88 = true) ∧
(wLd (env R) s1x13 none a88 fun vx19 => eqA vx19 a89 = true) ∧
(wLd (env R) s1x15 none a88 fun vx20 => eqA vx20 a89 = true) ∧
(wIdx s1x13 4 a89 (I64 1) fun vx21 => eqA vx21 a90 = true) ∧
(wIdx s1x15 4 a89 (I64 1) fun vx22 => eqA vx22 a90 = true) ∧
(wLd (env R) s1x13 (some 4) a90 fun vx23 => eqA vx23 a91 = true) ∧
(wLd (env R) s1x15 (some 4) a90 fun vx24 => eqA vx24 a91 = true) ∧
 wNil s1x16 t0 fun a99 =>
 wFad s1x16 a99 0 fun a100 =>
 wCall (env R) (LFE (env R) 30 n0 ro rt) (.func (.func 60) [] []) [a100,(.pv (.sc (.int .u8 41)))] s1x16 fun a101 s1x25 =>
 QR (.tuple []) s1x25) (
 wInt .i64 .eql a9 (I64 2) fun a103 =>
 wCond a103 (
 wFad s1x0 a4 3 fun a104 =>
 wLd (env R) s1x0 none a104 fun a105 =>
 wLen s1x0 a105 fun a106 =>
 wInt .i64 .eql a106 (I64 0) fun a107 =>
 wCond a107 (
 wNil s1x0 t0 fun a109 =>
 wFad s1x0 a109 0 fun a110 =>
 wFad s1x0 a4 1 fun a111 =>
 wLd (env R) s1x0 none a111 fun a112 =>
 wCall (env R) (LFE (env R) 30 n0 ro rt) (.func (.func 56) [] []) [a110,a112] s1x0 fun a113 s1x26 =>
 QR (.tuple []) s1x26) (
 P30_1 R n0 ro rt t0 t2 a4 s1x0 QR)) (
 QR (.tuple []) s1x0)))))))) : P30_0 R n0 ro rt t0 t1 t2 s QR :=
  wpc_mp (lv := lv30) (ct := ct30) _ _ _ _ h (by kernel_rfl)
theorem p30_1 {t0 t2 t4 : AV} (h :
 wFad s t4 1 fun a115 =>
 wLd (env R) s none a115 fun a116 =>
 wFad s t4 3 fun a117 =>
 wLd (env R) s none a117 fun a118 =>
 wCall (env R) (LFE (env R) 30 n0 ro rt) (.func (.func 57) [] []) [t0,a116,a118,t2] s fun a120 s1x0 =>
 QR (.tuple []) s1x0) : P30_1 R n0 ro rt t0 t2 t4 s QR :=
  wpc_mp (lv := lv30) (ct := ct30) _ _ _ _ h (by kernel_rfl)
theorem m30 {R : RT} {t0 t1 t2 : AV} {L : Lim} {s : Sto} {Post : AV → Sto → Prop} (hn : noIdL [t0,t1,t2] = false) (h : P30_0 R 0 L.ro L.rt t0 t1 t2 s (QM (L.rr 30) s.bs.length Post)) : ∃ v s',Post v s' ∧ CallE (env R) L 30 [t0,t1,t2] s v s' :=
  call_im (fn := Tryz.f30) (body := b30) Tryz.func30 (by kernel_rfl) (by kernel_rfl) (by kernel_rfl) (Nat.le_of_ble_eq_true (by kernel_rfl)) hn (mpK h (by kernel_rfl))
noncomputable def b57 : Code := Tryz.f57.body.getD .skip
def lv57 (f : Nat) : List Nat := bif Nat.blt f 4 then (
 bif Nat.blt f 2 then (
  bif Nat.beq f 1 then [0,2,3] else []) else (
  bif Nat.blt f 3 then (
   bif Nat.beq f 2 then [0,3,16,17,18] else []) else (
   bif Nat.beq f 3 then [0,3,16,17,18,19] else []))) else (
 bif Nat.blt f 6 then (
  bif Nat.blt f 5 then (
   bif Nat.beq f 4 then [0,3,9,16,17,18] else []) else (
   bif Nat.beq f 5 then [0,3,9,16,17,18] else [])) else (
  bif Nat.blt f 7 then (
   bif Nat.beq f 6 then [0,3,16,17,18] else []) else (
   bif Nat.beq f 7 then [0] else [])))
def ct57 (f : Nat) : Bool := false
def P57_0 (R : RT) (n0 ro rt : Nat) (t0 t1 t2 t3 : AV) (s : Sto) (QR : QT) : Prop := Wp (env R) (LFE (env R) 57 n0 ro rt) 35 [] (sub b57 []) [] [(0,t0),(1,t1),(2,t2),(3,t3)] s QR
def P57_1 (R : RT) (n0 ro rt : Nat) (t0 t3 t16 t17 t18 : AV) (s : Sto) (QR : QT) : Prop := Wp (env R) (LFE (env R) 57 n0 ro rt) 35 [] (.loop (sub b57 [1,0,1,0,0])) [.blk 0,.seq (sub b57 [1,1])] [(0,t0),(3,t3),(16,t16),(17,t17),(18,t18)] s QR
def P57_2 (R : RT) (n0 ro rt : Nat) (t0 t3 t16 t17 t18 t19 : AV) (s : Sto) (QR : QT) : Prop := Wp (env R) (LFE (env R) 57 n0 ro rt) 35 [] (sub b57 [1,0,1,0,0,1,1]) [.loop (sub b57 [1,0,1,0,0]),.blk 0,.seq (sub b57 [1,1])] [(0,t0),(3,t3),(16,t16),(17,t17),(18,t18),(19,t19)] s QR
def P57_3 (R : RT) (n0 ro rt : Nat) (t0 : AV) (s : Sto) (QR : QT) : Prop := Wp (env R) (LFE (env R) 57 n0 ro rt) 35 [] (sub b57 [1,1]) [] [(0,t0)] s QR
def P57_4 (R : RT) (n0 ro rt : Nat) (t0 t3 t16 t17 t18 : AV) (s : Sto) (QR : QT) : Prop := Wp (env R) (LFE (env R) 57 n0 ro rt) 35 [] (sub b57 [1,0,1,0,0,1,1,1]) [.loop (sub b57 [1,0,1,0,0]),.blk 0,.seq (sub b57 [1,1])] [(0,t0),(3,t3),(16,t16),(17,t17),(18,t18)] s QR
theorem p57_0 {t0 t1 t2 t3 : AV} (h :
 wNil s t0 fun a11 =>
 wFad s a11 0 fun a12 =>
 wStr .add (SS [40]) t1 fun a14 =>
 wCall (env R) (LFE (env R) 57 n0 ro rt) (.func (.func 56) [] []) [a12,a14] s fun a15 s1x0 =>
 wLen s1x0 t2 fun a17 =>
 P57_1 R n0 ro rt t0 t3 t2 a17 (I64 0) s1x0 QR) : P57_0 R n0 ro rt t0 t1 t2 t3 s QR :=
  wpc_mp (lv := lv57) (ct := ct57) _ _ _ _ h (by kernel_rfl)
theorem p57_1 {t0 t3 t16 t17 t18 : AV} (h :
 wInt .i64 .lss t18 t17 fun a19 =>
 wCond a19 (
 P57_2 R n0 ro rt t0 t3 t16 t17 t18 a19 s QR) (
 P57_3 R n0 ro rt t0 s QR)) : P57_1 R n0 ro rt t0 t3 t16 t17 t18 s QR :=
  wpl_mp (lv := lv57) (ct := ct57) _ _ _ _ h (by kernel_rfl)
theorem p57_2 {t0 t3 t16 t17 t18 t19 : AV} (h :
 wIdx s 4 t16 t18 fun a20 =>
 wLd (env R) s (some 4) a20 fun a21 =>
 wNew s [(I64 0),(SS []),(I64 0),(.capped [])] fun a9 s1x0 =>
 wSt (LFE (env R) 57 n0 ro rt) s1x0 4 a9 a21 fun s1x1 =>
 wNil s1x1 t0 fun a23 =>
 wFad s1x1 a23 0 fun a24 =>
 wCall (env R) (LFE (env R) 57 n0 ro rt) (.func (.func 60) [] []) [a24,(.pv (.sc (.int .u8 32)))] s1x1 fun a25 s1x2 =>
 wLd (env R) s1x2 (some 4) a9 fun a27 =>
 wCall (env R) (LFE (env R) 57 n0 ro rt) (.func (.func 30) [] []) [t0,a27,t3] s1x2 fun a29 s1x3 =>
 P57_4 R n0 ro rt t0 t3 t16 t17 t18 s1x3 QR) : P57_2 R n0 ro rt t0 t3 t16 t17 t18 t19 s QR :=
  wpc_mp (lv := lv57) (ct := ct57) _ _ _ _ h (by kernel_rfl)
theorem p57_3 {t0 : AV} (h :
 wNil s t0 fun a32 =>
 wFad s a32 0 fun a33 =>
 wCall (env R) (LFE (env R) 57 n0 ro rt) (.func (.func 60) [] []) [a33,(.pv (.sc (.int .u8 41)))] s fun a34 s1x0 =>
 QR (.tuple []) s1x0) : P57_3 R n0 ro rt t0 s QR :=
  wpc_mp (lv := lv57) (ct := ct57) _ _ _ _ h (by kernel_rfl)
theorem p57_4 {t0 t3 t16 t17 t18 : AV} (h :
 wInt .i64 .add t18 (I64 1) fun a30 =>
 P57_1 R n0 ro rt t0 t3 t16 t17 a30 s QR) : P57_4 R n0 ro rt t0 t3 t16 t17 t18 s QR :=
  wpc_mp (lv := lv57) (ct := ct57) _ _ _ _ h (by kernel_rfl)
theorem m57 {R : RT} {t0 t1 t2 t3 : AV} {L : Lim} {s : Sto} {Post : AV → Sto → Prop} (hn : noIdL [t0,t1,t2,t3] = false) (h : P57_0 R 0 L.ro L.rt t0 t1 t2 t3 s (QM (L.rr 57) s.bs.length Post)) : ∃ v s',Post v s' ∧ CallE (env R) L 57 [t0,t1,t2,t3] s v s' :=
  call_im (fn := Tryz.f57) (body := b57) Tryz.func57 (by kernel_rfl) (by kernel_rfl) (by kernel_rfl) (Nat.le_of_ble_eq_true (by kernel_rfl)) hn (mpK h (by kernel_rfl))
noncomputable def b59 : Code := Tryz.f59.body.getD .skip
def lv59 (f : Nat) : List Nat := bif Nat.blt f 4 then (
 bif Nat.blt f 2 then (
  bif Nat.beq f 1 then [0,1] else []) else (
  bif Nat.blt f 3 then (
   bif Nat.beq f 2 then [0,1,5] else []) else (
   bif Nat.beq f 3 then [0,1,5] else []))) else (
 bif Nat.blt f 6 then (
  bif Nat.blt f 5 then (
   bif Nat.beq f 4 then [0,1,5,6] else []) else (
   bif Nat.beq f 5 then [0,1,5,6,15] else [])) else (
  bif Nat.blt f 7 then (
   bif Nat.beq f 6 then [0,1,5,6] else []) else (
   bif Nat.beq f 7 then [0,1,5,6,34] else [])))
def ct59 (f : Nat) : Bool := false
def P59_0 (R : RT) (n0 ro rt : Nat) (t0 t1 : AV) (s : Sto) (QR : QT) : Prop := Wp (env R) (LFE (env R) 59 n0 ro rt) 36 [.tmp 4] (sub b59 []) [] [(0,t0),(1,t1)] s QR
def P59_1 (R : RT) (n0 ro rt : Nat) (t0 t1 t5 : AV) (s : Sto) (QR : QT) : Prop := Wp (env R) (LFE (env R) 59 n0 ro rt) 36 [.tmp 4] (.loop (sub b59 [1,1,0,0])) [.blk 0] [(0,t0),(1,t1),(5,t5)] s QR
def P59_2 (R : RT) (n0 ro rt : Nat) (t0 t1 t5 t6 : AV) (s : Sto) (QR : QT) : Prop := Wp (env R) (LFE (env R) 59 n0 ro rt) 36 [.tmp 4] (sub b59 [1,1,0,0,0,0,1,1]) [.blk 1,.seq (sub b59 [1,1,0,0,1]),.loop (sub b59 [1,1,0,0]),.blk 0] [(0,t0),(1,t1),(5,t5),(6,t6)] s QR
def P59_3 (R : RT) (n0 ro rt : Nat) (t0 t1 t5 : AV) (s : Sto) (QR : QT) : Prop := Wp (env R) (LFE (env R) 59 n0 ro rt) 36 [.tmp 4] (sub b59 [1,1,0,0,1]) [.loop (sub b59 [1,1,0,0]),.blk 0] [(0,t0),(1,t1),(5,t5)] s QR
theorem p59_0 {t0 t1 : AV} (h :
 P59_1 R n0 ro rt t0 t1 (I64 0) s QR) : P59_0 R n0 ro rt t0 t1 s QR :=
  wpc_mp (lv := lv59) (ct := ct59) _ _ _ _ h (by kernel_rfl)
theorem p59_1 {t0 t1 t5 : AV} (h :
 wInt .i64 .rem t5 (I64 26) fun a10 =>
 wInt .i64 .add (I64 65) a10 fun a11 =>
 wConvI .i32 a11 fun a12 =>
 wAnyT (env R) (LFE (env R) 59 n0 ro rt) s (lkE [(12,a12),(11,a11),(10,a10),(9,t5),(0,t0),(1,t1),(5,t5)]) (opOf (sub b59 [1,1,0,0,0,0,0]) 4) fun a13 s1x0 =>
 wInt .i64 .geq t5 (I64 26) fun a15 =>
 wCond a15 (
 wInt .i64 .quo t5 (I64 26) fun a18 =>
 wCall (env R) (LFE (env R) 59 n0 ro rt) (.func (.func 58) [] []) [a18] s1x0 fun a19 s1x1 =>
 wStr .add (SS [95]) a19 fun a20 =>
 wStr .add a13 a20 fun a21 =>
 P59_2 R n0 ro rt t0 t1 t5 a21 s1x1 QR) (
 P59_2 R n0 ro rt t0 t1 t5 a13 s1x0 QR)) : P59_1 R n0 ro rt t0 t1 t5 s QR :=
  wpl_mp (lv := lv59) (ct := ct59) _ _ _ _ h (by kernel_rfl)
theorem p59_2 {t0 t1 t5 t6 : AV} (h :
 wNil s t0 fun a23 =>
 wFad s a23 2 fun a24 =>
 wLd (env R) s none a24 fun a25 =>
 wCall (env R) (LFE (env R) 59 n0 ro rt) (.func (.func 84) [] []) [a25,t6] s fun a27 s1x0 =>
 wNot a27 fun a28 =>
 wGK a28 true s1x0 (fun K => K t1 s1x0) fun a30 s1x1 =>
 wGK a28 true s1x1 (fun K => K t6 s1x1) fun a31 s1x2 =>
 wGK a28 true s1x2 (fun K => wCall (env R) (LFE (env R) 59 n0 ro rt) (.func (.func 84) [] []) [a30,a31] s1x2 fun a32 s1x3 => K a32 s1x3) fun a32x4 s1x5 =>
 wGK a28 true s1x5 (fun K => wNot a32x4 fun a33 => K a33 s1x5) fun a33x6 s1x7 =>
 wPick a28 a33x6 (BB false) fun a34 =>
 wCond a34 (
 QR t6 s1x7) (
 P59_3 R n0 ro rt t0 t1 t5 s1x7 QR)) : P59_2 R n0 ro rt t0 t1 t5 t6 s QR :=
  wpc_mp (lv := lv59) (ct := ct59) _ _ _ _ h (by kernel_rfl)
theorem p59_3 {t0 t1 t5 : AV} (h :
 wInt .i64 .add t5 (I64 1) fun a8 =>
 P59_1 R n0 ro rt t0 t1 a8 s QR) : P59_3 R n0 ro rt t0 t1 t5 s QR :=
  wpc_mp (lv := lv59) (ct := ct59) _ _ _ _ h (by kernel_rfl)
theorem m59 {R : RT} {t0 t1 : AV} {L : Lim} {s : Sto} {Post : AV → Sto → Prop} (hn : noIdL [t0,t1] = false) (h : P59_0 R 0 L.ro L.rt t0 t1 s (QM (L.rr 59) s.bs.length Post)) : ∃ v s',Post v s' ∧ CallE (env R) L 59 [t0,t1] s v s' :=
  call_im (fn := Tryz.f59) (body := b59) Tryz.func59 (by kernel_rfl) (by kernel_rfl) (by kernel_rfl) (Nat.le_of_ble_eq_true (by kernel_rfl)) hn (mpK h (by kernel_rfl))
noncomputable def b56 : Code := Tryz.f56.body.getD .skip
def lv56 (f : Nat) : List Nat := bif Nat.blt f 2 then (
 bif Nat.beq f 1 then [0,1] else []) else (
 bif Nat.blt f 3 then (
  bif Nat.beq f 2 then [0,1] else []) else (
  bif Nat.beq f 3 then [1] else []))
def ct56 (f : Nat) : Bool := false
def P56_0 (R : RT) (n0 ro rt : Nat) (t0 t1 : AV) (s : Sto) (QR : QT) : Prop := Wp (env R) (LFE (env R) 56 n0 ro rt) 19 [.tmp 4,.tmp 5] (sub b56 []) [] [(0,t0),(1,t1)] s QR
theorem p56_0 {t0 t1 : AV} (h :
 wCall (env R) (LFE (env R) 56 n0 ro rt) (.func (.func 82) [] []) [t0] s fun a7 s1x0 =>
 wNil s1x0 t0 fun a10 =>
 wFad s1x0 a10 1 fun a11 =>
 wLd (env R) s1x0 none a11 fun a12 =>
(1 = 1 ∧ 1 ≠ 0) ∧ wApp false (LFE (env R) 56 n0 ro rt) s1x0 5 1 1 a12 t1 fun a14 s1x1 =>
 wNil s1x1 t0 fun a15 =>
 wFad s1x1 a15 1 fun a16 =>
 wSt (LFE (env R) 56 n0 ro rt) s1x1 1 a16 a14 fun s1x2 =>
 wSlen t1 fun a18 =>
 QR (.tuple [a18,(.pv (.sc .nilIface))]) s1x2) : P56_0 R n0 ro rt t0 t1 s QR :=
  wpc_mp (lv := lv56) (ct := ct56) _ _ _ _ h (by kernel_rfl)
theorem m56 {R : RT} {t0 t1 : AV} {L : Lim} {s : Sto} {Post : AV → Sto → Prop} (hn : noIdL [t0,t1] = false) (h : P56_0 R 0 L.ro L.rt t0 t1 s (QM (L.rr 56) s.bs.length Post)) : ∃ v s',Post v s' ∧ CallE (env R) L 56 [t0,t1] s v s' :=
  call_im (fn := Tryz.f56) (body := b56) Tryz.func56 (by kernel_rfl) (by kernel_rfl) (by kernel_rfl) (Nat.le_of_ble_eq_true (by kernel_rfl)) hn (mpK h (by kernel_rfl))
noncomputable def b60 : Code := Tryz.f60.body.getD .skip
def lv60 (f : Nat) : List Nat := bif Nat.blt f 2 then (
 bif Nat.beq f 1 then [0,1] else []) else (
 bif Nat.blt f 3 then (
  bif Nat.beq f 2 then [0,1] else []) else (
  bif Nat.beq f 3 then [] else []))
def ct60 (f : Nat) : Bool := false
def P60_0 (R : RT) (n0 ro rt : Nat) (t0 t1 : AV) (s : Sto) (QR : QT) : Prop := Wp (env R) (LFE (env R) 60 n0 ro rt) 17 [.tmp 4] (sub b60 []) [] [(0,t0),(1,t1)] s QR
theorem p60_0 {t0 t1 : AV} (h :
 wCall (env R) (LFE (env R) 60 n0 ro rt) (.func (.func 82) [] []) [t0] s fun a6 s1x0 =>
 wNil s1x0 t0 fun a9 =>
 wFad s1x0 a9 1 fun a10 =>
 wLd (env R) s1x0 none a10 fun a11 =>
 wBsl false s1x0 1 [(.pv (.sc (.int .u8 0)))] 1 [(0,1,t1)] fun a13 s1x1 =>
(1 = 1 ∧ 1 ≠ 0) ∧ wApp false (LFE (env R) 60 n0 ro rt) s1x1 5 1 1 a11 a13 fun a14 s1x2 =>
 wNil s1x2 t0 fun a15 =>
 wFad s1x2 a15 1 fun a16 =>
 wSt (LFE (env R) 60 n0 ro rt) s1x2 1 a16 a14 fun s1x3 =>
 QR (.pv (.sc .nilIface)) s1x3) : P60_0 R n0 ro rt t0 t1 s QR :=
  wpc_mp (lv := lv60) (ct := ct60) _ _ _ _ h (by kernel_rfl)
theorem m60 {R : RT} {t0 t1 : AV} {L : Lim} {s : Sto} {Post : AV → Sto → Prop} (hn : noIdL [t0,t1] = false) (h : P60_0 R 0 L.ro L.rt t0 t1 s (QM (L.rr 60) s.bs.length Post)) : ∃ v s',Post v s' ∧ CallE (env R) L 60 [t0,t1] s v s' :=
  call_im (fn := Tryz.f60) (body := b60) Tryz.func60 (by kernel_rfl) (by kernel_rfl) (by kernel_rfl) (Nat.le_of_ble_eq_true (by kernel_rfl)) hn (mpK h (by kernel_rfl))
noncomputable def b55 : Code := Tryz.f55.body.getD .skip
def lv55 (f : Nat) : List Nat := bif Nat.blt f 4 then (
 bif Nat.blt f 2 then (
  bif Nat.beq f 1 then [1,2] else []) else (
  bif Nat.blt f 3 then (
   bif Nat.beq f 2 then [1,2,8] else []) else (
   bif Nat.beq f 3 then [1,2] else []))) else (
 bif Nat.blt f 6 then (
  bif Nat.blt f 5 then (
   bif Nat.beq f 4 then [1,14,15,16] else []) else (
   bif Nat.beq f 5 then [1,14,15,16,17] else [])) else (
  bif Nat.blt f 7 then (
   bif Nat.beq f 6 then [1,5,14,15,16] else []) else (
   bif Nat.beq f 7 then [1,14,15,16] else [])))
def ct55 (f : Nat) : Bool := false
def P55_0 (R : RT) (n0 ro rt : Nat) (t0 t1 : AV) (s : Sto) (QR : QT) : Prop := Wp (env R) (LFE (env R) 55 n0 ro rt) 24 [] (sub b55 []) [] [(0,t0),(1,t1)] s QR
def P55_1 (R : RT) (n0 ro rt : Nat) (t1 t2 : AV) (s : Sto) (QR : QT) : Prop := Wp (env R) (LFE (env R) 55 n0 ro rt) 24 [] (sub b55 [1,1]) [] [(1,t1),(2,t2)] s QR
def P55_2 (R : RT) (n0 ro rt : Nat) (t1 t14 t15 t16 : AV) (s : Sto) (QR : QT) : Prop := Wp (env R) (LFE (env R) 55 n0 ro rt) 24 [] (.loop (sub b55 [1,1,1,0,0])) [.blk 0] [(1,t1),(14,t14),(15,t15),(16,t16)] s QR
def P55_3 (R : RT) (n0 ro rt : Nat) (t1 t14 t15 t16 t17 : AV) (s : Sto) (QR : QT) : Prop := Wp (env R) (LFE (env R) 55 n0 ro rt) 24 [] (sub b55 [1,1,1,0,0,1,1]) [.loop (sub b55 [1,1,1,0,0]),.blk 0] [(1,t1),(14,t14),(15,t15),(16,t16),(17,t17)] s QR
def P55_4 (R : RT) (n0 ro rt : Nat) (t1 t14 t15 t16 : AV) (s : Sto) (QR : QT) : Prop := Wp (env R) (LFE (env R) 55 n0 ro rt) 24 [] (sub b55 [1,1,1,0,0,1,1,1]) [.loop (sub b55 [1,1,1,0,0]),.blk 0] [(1,t1),(14,t14),(15,t15),(16,t16)] s QR
theorem p55_0 {t0 t1 : AV} (h :
 wBox s t0 fun a2 s1x0 =>
 wFad s1x0 a2 0 fun a6 =>
 wLd (env R) s1x0 none a6 fun a7 =>
 wInt .i64 .eql a7 (I64 2) fun a8 =>
 wCond a8 (
 wFad s1x0 a2 1 fun a10 =>
 wLd (env R) s1x0 none a10 fun a11 =>
 wCall (env R) (LFE (env R) 55 n0 ro rt) (.func (.func 81) [] []) [t1,a11] s1x0 fun a12 s1x1 =>
 P55_1 R n0 ro rt t1 a2 s1x1 QR) (
 P55_1 R n0 ro rt t1 a2 s1x0 QR)) : P55_0 R n0 ro rt t0 t1 s QR :=
  wpc_mp (lv := lv55) (ct := ct55) _ _ _ _ h (by kernel_rfl)
theorem p55_1 {t1 t2 : AV} (h :
 wFad s t2 3 fun a13 =>
 wLd (env R) s none a13 fun a14 =>
 wLen s a14 fun a15 =>
 P55_2 R n0 ro rt t1 a14 a15 (I64 0) s QR) : P55_1 R n0 ro rt t1 t2 s QR :=
  wpc_mp (lv := lv55) (ct := ct55) _ _ _ _ h (by kernel_rfl)
theorem p55_2 {t1 t14 t15 t16 : AV} (h :
 wInt .i64 .lss t16 t15 fun a17 =>
 wCond a17 (
 P55_3 R n0 ro rt t1 t14 t15 t16 a17 s QR) (
 QR (.tuple []) s)) : P55_2 R n0 ro rt t1 t14 t15 t16 s QR :=
  wpl_mp (lv := lv55) (ct := ct55) _ _ _ _ h (by kernel_rfl)
theorem p55_3 {t1 t14 t15 t16 t17 : AV} (h :
 wIdx s 4 t14 t16 fun a18 =>
 wLd (env R) s (some 4) a18 fun a19 =>
 wNew s [(I64 0),(SS []),(I64 0),(.capped [])] fun a5 s1x0 =>
 wSt (LFE (env R) 55 n0 ro rt) s1x0 4 a5 a19 fun s1x1 =>
 wLd (env R) s1x1 (some 4) a5 fun a20 =>
 wCall (env R) (LFE (env R) 55 n0 ro rt) (.func (.func 55) [] []) [a20,t1] s1x1 fun a22 s1x2 =>
 P55_4 R n0 ro rt t1 t14 t15 t16 s1x2 QR) : P55_3 R n0 ro rt t1 t14 t15 t16 t17 s QR :=
  wpc_mp (lv := lv55) (ct := ct55) _ _ _ _ h (by kernel_rfl)
theorem p55_4 {t1 t14 t15 t16 : AV} (h :
 wInt .i64 .add t16 (I64 1) fun a23 =>
 P55_2 R n0 ro rt t1 t14 t15 a23 s QR) : P55_4 R n0 ro rt t1 t14 t15 t16 s QR :=
  wpc_mp (lv := lv55) (ct := ct55) _ _ _ _ h (by kernel_rfl)
theorem m55 {R : RT} {t0 t1 : AV} {L : Lim} {s : Sto} {Post : AV → Sto → Prop} (h : P55_0 R L.n0 L.ro L.rt t0 t1 s Post) : ∃ v s',Post v s' ∧ CallE (env R) L 55 [t0,t1] s v s' :=
  call_esc (fn := Tryz.f55) (body := b55) Tryz.func55 (by kernel_rfl) (by kernel_rfl) (by kernel_rfl) (Nat.le_of_ble_eq_true (by kernel_rfl)) (mpK h (by kernel_rfl))
noncomputable def b81 : Code := Tryz.f81.body.getD .skip
def lv81 (f : Nat) : List Nat := bif Nat.blt f 2 then (
 bif Nat.beq f 1 then [0,1,4,5] else []) else (
 bif Nat.beq f 2 then [0,1,4,16] else [])
def ct81 (f : Nat) : Bool := false
def P81_0 (R : RT) (n0 ro rt : Nat) (t0 t1 : AV) (s : Sto) (QR : QT) : Prop := Wp (env R) (LFE (env R) 81 n0 ro rt) 28 [] (sub b81 []) [] [(0,t0),(1,t1)] s QR
theorem p81_0 {t0 t1 : AV} (h :
 wNil s t0 fun a8 =>
 wFad s a8 0 fun a9 =>
 wLd (env R) s none a9 fun a10 =>
 wCall (env R) (LFE (env R) 81 n0 ro rt) (.func (.func 104) [] []) [a10,t1] s fun a12 s1x0 =>
 wExt a12 0 fun a13 =>
 wExt a12 1 fun a14 =>
 wNot a14 fun a16 =>
 wCond a16 (
 wNil s1x0 t0 fun a19 =>
 wFad s1x0 a19 0 fun a20 =>
 wLd (env R) s1x0 none a20 fun a21 =>
 wBsl false s1x0 1 [(SS [])] 1 [(0,1,t1)] fun a24 s1x1 =>
 wCall (env R) (LFE (env R) 81 n0 ro rt) (.func (.func 105) [] []) [a21,a13,a24] s1x1 fun a25 s1x2 =>
 wNil s1x2 t0 fun a26 =>
 wFad s1x2 a26 0 fun a27 =>
 wSt (LFE (env R) 81 n0 ro rt) s1x2 1 a27 a25 fun s1x3 =>
 QR (.tuple []) s1x3) (
 QR (.tuple []) s1x0)) : P81_0 R n0 ro rt t0 t1 s QR :=
  wpc_mp (lv := lv81) (ct := ct81) _ _ _ _ h (by kernel_rfl)
theorem m81 {R : RT} {t0 t1 : AV} {L : Lim} {s : Sto} {Post : AV → Sto → Prop} (h : P81_0 R L.n0 L.ro L.rt t0 t1 s Post) : ∃ v s',Post v s' ∧ CallE (env R) L 81 [t0,t1] s v s' :=
  call_esc (fn := Tryz.f81) (body := b81) Tryz.func81 (by kernel_rfl) (by kernel_rfl) (by kernel_rfl) (Nat.le_of_ble_eq_true (by kernel_rfl)) (mpK h (by kernel_rfl))
noncomputable def b104 : Code := Tryz.f104.body.getD .skip
def lv104 (f : Nat) : List Nat := bif Nat.blt f 4 then (
 bif Nat.blt f 2 then (
  bif Nat.beq f 1 then [0,1] else []) else (
  bif Nat.blt f 3 then (
   bif Nat.beq f 2 then [0,1,6] else []) else (
   bif Nat.beq f 3 then [0,1,6,7,8] else []))) else (
 bif Nat.blt f 6 then (
  bif Nat.blt f 5 then (
   bif Nat.beq f 4 then [0,1,6,7,8] else []) else (
   bif Nat.beq f 5 then [0,1,6,7,8,9] else [])) else (
  bif Nat.blt f 8 then (
   bif Nat.beq f 6 then [0,1,6,7,8,9,27] else []) else (
   bif Nat.beq f 8 then [0,1,6,7] else [])))
def ct104 (f : Nat) : Bool := false
def P104_0 (R : RT) (n0 ro rt : Nat) (t0 t1 : AV) (s : Sto) (QR : QT) : Prop := Wp (env R) (LFE (env R) 104 n0 ro rt) 54 [.tmp 4,.tmp 5] (sub b104 []) [] [(0,t0),(1,t1)] s QR
def P104_1 (R : RT) (n0 ro rt : Nat) (t0 t1 t6 t7 t8 : AV) (s : Sto) (QR : QT) : Prop := Wp (env R) (LFE (env R) 104 n0 ro rt) 54 [.tmp 4,.tmp 5] (.loop (sub b104 [1,1,1,0,0,0])) [.blk 0,.seq (sub b104 [1,1,1,1])] [(0,t0),(1,t1),(6,t6),(7,t7),(8,t8)] s QR
def P104_2 (R : RT) (n0 ro rt : Nat) (t0 t1 t6 t7 t8 : AV) (s : Sto) (QR : QT) : Prop := Wp (env R) (LFE (env R) 104 n0 ro rt) 54 [.tmp 4,.tmp 5] (sub b104 [1,1,1,0,0,0,1]) [.loop (sub b104 [1,1,1,0,0,0]),.blk 0,.seq (sub b104 [1,1,1,1])] [(0,t0),(1,t1),(6,t6),(7,t7),(8,t8)] s QR
def P104_3 (R : RT) (n0 ro rt : Nat) (t0 t1 t6 t7 : AV) (s : Sto) (QR : QT) : Prop := Wp (env R) (LFE (env R) 104 n0 ro rt) 54 [.tmp 4,.tmp 5] (sub b104 [1,1,1,1]) [] [(0,t0),(1,t1),(6,t6),(7,t7)] s QR
theorem p104_0 {t0 t1 : AV} (h :
 wLen s t0 fun a11 =>
 P104_1 R n0 ro rt t0 t1 a11 (I64 0) a11 s QR) : P104_0 R n0 ro rt t0 t1 s QR :=
  wpc_mp (lv := lv104) (ct := ct104) _ _ _ _ h (by kernel_rfl)
theorem p104_1 {t0 t1 t6 t7 t8 : AV} (h :
 wInt .i64 .lss t7 t8 fun a15 =>
 wCond a15 (
 P104_2 R n0 ro rt t0 t1 t6 t7 t8 s QR) (
 P104_3 R n0 ro rt t0 t1 t6 t7 s QR)) : P104_1 R n0 ro rt t0 t1 t6 t7 t8 s QR :=
  wpl_mp (lv := lv104) (ct := ct104) _ _ _ _ h (by kernel_rfl)
theorem p104_2 {t0 t1 t6 t7 t8 : AV} (h :
 wInt .i64 .add t7 t8 fun a18 =>
 wConvI .u64 a18 fun a19 =>
 wInt .u64 .shr a19 (.pv (.sc (.int .u64 1))) fun a20 =>
 wConvI .i64 a20 fun a21 =>
 wIdx s 1 t0 a21 fun a24 =>
 wLd (env R) s none a24 fun a25 =>
 wCall (env R) (LFE (env R) 104 n0 ro rt) (.func (.func 122) [] []) [a25,t1] s fun a27 s1x0 =>
 wCond a27 (
 wInt .i64 .add a21 (I64 1) fun a29 =>
 P104_1 R n0 ro rt t0 t1 t6 a29 t8 s1x0 QR) (
 P104_1 R n0 ro rt t0 t1 t6 t7 a21 s1x0 QR)) : P104_2 R n0 ro rt t0 t1 t6 t7 t8 s QR :=
  wpc_mp (lv := lv104) (ct := ct104) _ _ _ _ h (by kernel_rfl)
theorem p104_3 {t0 t1 t6 t7 : AV} (h :
 wInt .i64 .lss t7 t6 fun a34 =>
 wGK a34 true s (fun K => K t0 s) fun a36 s1x0 =>
 wGK a34 true s1x0 (fun K => K t7 s1x0) fun a37 s1x1 =>
 wGK a34 true s1x1 (fun K => wIdx s1x1 1 a36 a37 fun a38 => K a38 s1x1) fun a38x2 s1x3 =>
 wGK a34 true s1x3 (fun K => wLd (env R) s1x3 none a38x2 fun a39 => K a39 s1x3) fun a39x4 s1x5 =>
 wGK a34 true s1x5 (fun K => K t1 s1x5) fun a40 s1x6 =>
 wGK a34 true s1x6 (fun K => wStr .eql a39x4 a40 fun a41 => K a41 s1x6) fun a41x7 s1x8 =>
 wGK a34 true s1x8 (fun K => K a41x7 s1x8) fun a42 s1x9 =>
 wGK a42 false s1x9 (fun K => K t0 s1x9) fun a43 s1x10 =>
 wGK a42 false s1x10 (fun K => K t7 s1x10) fun a44 s1x11 =>
 wGK a42 false s1x11 (fun K => wIdx s1x11 1 a43 a44 fun a45 => K a45 s1x11) fun a45x12 s1x13 =>
 wGK a42 false s1x13 (fun K => wLd (env R) s1x13 none a45x12 fun a46 => K a46 s1x13) fun a46x14 s1x15 =>
 wGK a42 false s1x15 (fun K => wCall (env R) (LFE (env R) 104 n0 ro rt) (.func (.func 123) [] []) [a46x14] s1x15 fun a47 s1x16 => K a47 s1x16) fun a47x17 s1x18 =>
 wGK a42 false s1x18 (fun K => K a47x17 s1x18) fun a48 s1x19 =>
 wGK a48 true s1x19 (fun K => K t1 s1x19) fun a49 s1x20 =>
 wGK a48 true s1x20 (fun K => wCall (env R) (LFE (env R) 104 n0 ro rt) (.func (.func 123) [] []) [a49] s1x20 fun a50 s1x21 => K a50 s1x21) fun a50x22 s1x23 =>
 wGK a42 false s1x23 (fun K => wPick a48 a50x22 (BB false) fun a51 => K a51 s1x23) fun a51x24 s1x25 =>
 wGK a34 true s1x25 (fun K => wPick a42 (BB true) a51x24 fun a52 => K a52 s1x25) fun a52x26 s1x27 =>
 wPick a34 a52x26 (BB false) fun a53 =>
 QR (.tuple [t7,a53]) s1x27) : P104_3 R n0 ro rt t0 t1 t6 t7 s QR :=
  wpc_mp (lv := lv104) (ct := ct104) _ _ _ _ h (by kernel_rfl)
theorem e104 {R : RT} {t0 t1 : AV} {u0 u1 : AV} {Post : AV → Prop} (hcl : closeL [] 0 0 [t0,t1] = some [u0,u1]) (h : P104_0 R 0 0 0 u0 u1 ⟨[],[]⟩ (QP Post)) : PureC (env R) 104 [t0,t1] Post :=
  call_rd (fn := Tryz.f104) (body := b104) Tryz.func104 (by kernel_rfl) (by kernel_rfl) (by kernel_rfl) (Nat.le_of_ble_eq_true (by kernel_rfl)) hcl (mpK h (by kernel_rfl))
theorem i104 {R : RT} {t0 t1 : AV} {s : Sto} {Post : AV → Prop} (hcl : closeL [] 0 0 [t0,t1] = none) (h : P104_0 R s.bs.length s.bs.length s.ts.length t0 t1 s (QI s.bs.length s.ts.length Post)) : ∃ v,Post v ∧ ∀ L,CallE (env R) L 104 [t0,t1] s v s :=
  call_rdI (fn := Tryz.f104) (body := b104) Tryz.func104 (by kernel_rfl) (by kernel_rfl) (by kernel_rfl) (Nat.le_of_ble_eq_true (by kernel_rfl)) hcl (mpK h (by kernel_rfl))
noncomputable def b122 : Code := Tryz.f122.body.getD .skip
def lv122 (f : Nat) : List Nat := bif Nat.beq f 1 then [0,1] else []
def ct122 (f : Nat) : Bool := false
def P122_0 (R : RT) (n0 ro rt : Nat) (t0 t1 : AV) (s : Sto) (QR : QT) : Prop := Wp (env R) (LFE (env R) 122 n0 ro rt) 17 [.tmp 4] (sub b122 []) [] [(0,t0),(1,t1)] s QR
theorem p122_0 {t0 t1 : AV} (h :
 wCall (env R) (LFE (env R) 122 n0 ro rt) (.func (.func 133) [] []) [t0] s fun a6 s1x0 =>
 wGK a6 true s1x0 (fun K => K t1 s1x0) fun a8 s1x1 =>
 wGK a6 true s1x1 (fun K => wCall (env R) (LFE (env R) 122 n0 ro rt) (.func (.func 133) [] []) [a8] s1x1 fun a9 s1x2 => K a9 s1x2) fun a9x3 s1x4 =>
 wGK a6 true s1x4 (fun K => wNot a9x3 fun a10 => K a10 s1x4) fun a10x5 s1x6 =>
 wPick a6 a10x5 (BB false) fun a11 =>
 wGK a11 false s1x6 (fun K => K t0 s1x6) fun a13 s1x7 =>
 wGK a11 false s1x7 (fun K => K t1 s1x7) fun a14 s1x8 =>
 wGK a11 false s1x8 (fun K => wStr .lss a13 a14 fun a15 => K a15 s1x8) fun a15x9 s1x10 =>
 wPick a11 (BB true) a15x9 fun a16 =>
 QR a16 s1x10) : P122_0 R n0 ro rt t0 t1 s QR :=
  wpc_mp (lv := lv122) (ct := ct122) _ _ _ _ h (by kernel_rfl)
theorem e122 {R : RT} {t0 t1 : AV} {u0 u1 : AV} {Post : AV → Prop} (hcl : closeL [] 0 0 [t0,t1] = some [u0,u1]) (h : P122_0 R 0 0 0 u0 u1 ⟨[],[]⟩ (QP Post)) : PureC (env R) 122 [t0,t1] Post :=
  call_rd (fn := Tryz.f122) (body := b122) Tryz.func122 (by kernel_rfl) (by kernel_rfl) (by kernel_rfl) (Nat.le_of_ble_eq_true (by kernel_rfl)) hcl (mpK h (by kernel_rfl))
noncomputable def b123 : Code := Tryz.f123.body.getD .skip
def lv123 (f : Nat) : List Nat := bif Nat.beq f 1 then [0] else []
def ct123 (f : Nat) : Bool := false
def P123_0 (R : RT) (n0 ro rt : Nat) (t0 : AV) (s : Sto) (QR : QT) : Prop := Wp (env R) (LFE (env R) 123 n0 ro rt) 6 [.tmp 2] (sub b123 []) [] [(0,t0)] s QR
theorem p123_0 {t0 : AV} (h :
 wStr .neq t0 t0 fun a5 =>
 QR a5 s) : P123_0 R n0 ro rt t0 s QR :=
  wpc_mp (lv := lv123) (ct := ct123) _ _ _ _ h (by kernel_rfl)
theorem e123 {R : RT} {t0 : AV} {u0 : AV} {Post : AV → Prop} (hcl : closeL [] 0 0 [t0] = some [u0]) (h : P123_0 R 0 0 0 u0 ⟨[],[]⟩ (QP Post)) : PureC (env R) 123 [t0] Post :=
  call_rd (fn := Tryz.f123) (body := b123) Tryz.func123 (by kernel_rfl) (by kernel_rfl) (by kernel_rfl) (Nat.le_of_ble_eq_true (by kernel_rfl)) hcl (mpK h (by kernel_rfl))
noncomputable def b133 : Code := Tryz.f133.body.getD .skip
def lv133 (f : Nat) : List Nat := bif Nat.beq f 1 then [0] else []
def ct133 (f : Nat) : Bool := false
def P133_0 (R : RT) (n0 ro rt : Nat) (t0 : AV) (s : Sto) (QR : QT) : Prop := Wp (env R) (LFE (env R) 133 n0 ro rt) 6 [.tmp 2] (sub b133 []) [] [(0,t0)] s QR
theorem p133_0 {t0 : AV} (h :
 wStr .neq t0 t0 fun a5 =>
 QR a5 s) : P133_0 R n0 ro rt t0 s QR :=
  wpc_mp (lv := lv133) (ct := ct133) _ _ _ _ h (by kernel_rfl)
theorem e133 {R : RT} {t0 : AV} {u0 : AV} {Post : AV → Prop} (hcl : closeL [] 0 0 [t0] = some [u0]) (h : P133_0 R 0 0 0 u0 ⟨[],[]⟩ (QP Post)) : PureC (env R) 133 [t0] Post :=
  call_rd (fn := Tryz.f133) (body := b133) Tryz.func133 (by kernel_rfl) (by kernel_rfl) (by kernel_rfl) (Nat.le_of_ble_eq_true (by kernel_rfl)) hcl (mpK h (by kernel_rfl))
noncomputable def b12 : Code := Tryz.f12.body.getD .skip
def lv12 (f : Nat) : List Nat := bif Nat.blt f 2 then (
 bif Nat.beq f 1 then [1] else []) else (
 bif Nat.blt f 3 then (
  bif Nat.beq f 2 then [1,5] else []) else (
  bif Nat.beq f 3 then [1] else []))
def ct12 (f : Nat) : Bool := false
def P12_0 (R : RT) (n0 ro rt : Nat) (t0 : AV) (s : Sto) (QR : QT) : Prop := Wp (env R) (LFE (env R) 12 n0 ro rt) 10 [.tmp 2] (sub b12 []) [] [(0,t0)] s QR
def P12_1 (R : RT) (n0 ro rt : Nat) (t1 : AV) (s : Sto) (QR : QT) : Prop := Wp (env R) (LFE (env R) 12 n0 ro rt) 10 [.tmp 2] (sub b12 [1,1]) [] [(1,t1)] s QR
theorem p12_0 {t0 : AV} (h :
 wBox s t0 fun a1 s1x0 =>
 wLd (env R) s1x0 (some 4) a1 fun a3 =>
 wCall (env R) (LFE (env R) 12 n0 ro rt) (.func (.func 14) [] []) [a3] s1x0 fun a4 s1x1 =>
 wInt .i64 .neq a4 (I64 0) fun a5 =>
 wCond a5 (
 QR (SS []) s1x1) (
 P12_1 R n0 ro rt a1 s1x1 QR)) : P12_0 R n0 ro rt t0 s QR :=
  wpc_mp (lv := lv12) (ct := ct12) _ _ _ _ h (by kernel_rfl)
theorem p12_1 {t1 : AV} (h :
 wLd (env R) s (some 4) t1 fun a6 =>
 wLd (env R) s (some 4) t1 fun a7 =>
 wCall (env R) (LFE (env R) 12 n0 ro rt) (.func (.func 38) [] []) [a7] s fun a8 s1x0 =>
 wCall (env R) (LFE (env R) 12 n0 ro rt) (.func (.func 37) [] []) [a6,a8,(.capped [])] s1x0 fun a9 s1x1 =>
(wLd (env R) s1x0 (some 4) t1 fun v => eqA v a6 = true) ∧
 QR a9 s1x1) : P12_1 R n0 ro rt t1 s QR :=
  wpc_mp (lv := lv12) (ct := ct12) _ _ _ _ h (by kernel_rfl)
theorem e12 {R : RT} {t0 : AV} {u0 : AV} {Post : AV → Prop} (hcl : closeL [] 0 0 [t0] = some [u0]) (h : P12_0 R 0 0 0 u0 ⟨[],[]⟩ (QP Post)) : PureC (env R) 12 [t0] Post :=
  call_rd (fn := Tryz.f12) (body := b12) Tryz.func12 (by kernel_rfl) (by kernel_rfl) (by kernel_rfl) (Nat.le_of_ble_eq_true (by kernel_rfl)) hcl (mpK h (by kernel_rfl))
noncomputable def b38 : Code := Tryz.f38.body.getD .skip
def lv38 (f : Nat) : List Nat := bif Nat.beq f 1 then [1] else []
def ct38 (f : Nat) : Bool := false
def P38_0 (R : RT) (n0 ro rt : Nat) (t0 : AV) (s : Sto) (QR : QT) : Prop := Wp (env R) (LFE (env R) 38 n0 ro rt) 5 [.tmp 2] (sub b38 []) [] [(0,t0)] s QR
theorem p38_0 {t0 : AV} (h :
 wBox s t0 fun a1 s1x0 =>
 wLd (env R) s1x0 (some 4) a1 fun a3 =>
 wCall (env R) (LFE (env R) 38 n0 ro rt) (.func (.func 64) [] []) [a3,(.capped [])] s1x0 fun a4 s1x1 =>
 QR a4 s1x1) : P38_0 R n0 ro rt t0 s QR :=
  wpc_mp (lv := lv38) (ct := ct38) _ _ _ _ h (by kernel_rfl)
theorem e38 {R : RT} {t0 : AV} {u0 : AV} {Post : AV → Prop} (hcl : closeL [] 0 0 [t0] = some [u0]) (h : P38_0 R 0 0 0 u0 ⟨[],[]⟩ (QP Post)) : PureC (env R) 38 [t0] Post :=
  call_rd (fn := Tryz.f38) (body := b38) Tryz.func38 (by kernel_rfl) (by kernel_rfl) (by kernel_rfl) (Nat.le_of_ble_eq_true (by kernel_rfl)) hcl (mpK h (by kernel_rfl))
noncomputable def b64 : Code := Tryz.f64.body.getD .skip
def lv64 (f : Nat) : List Nat := bif Nat.blt f 4 then (
 bif Nat.blt f 2 then (
  bif Nat.beq f 1 then [1,2] else []) else (
  bif Nat.blt f 3 then (
   bif Nat.beq f 2 then [1,2,8] else []) else (
   bif Nat.beq f 3 then [1,2] else []))) else (
 bif Nat.blt f 6 then (
  bif Nat.blt f 5 then (
   bif Nat.beq f 4 then [1,2,5] else []) else (
   bif Nat.beq f 5 then [1,2,5] else [])) else (
  bif Nat.blt f 7 then (
   bif Nat.beq f 6 then [1,2,5] else []) else (
   bif Nat.beq f 7 then [1] else [])))
def ct64 (f : Nat) : Bool := false
def P64_0 (R : RT) (n0 ro rt : Nat) (t0 t1 : AV) (s : Sto) (QR : QT) : Prop := Wp (env R) (LFE (env R) 64 n0 ro rt) 28 [.tmp 4] (sub b64 []) [] [(0,t0),(1,t1)] s QR
def P64_1 (R : RT) (n0 ro rt : Nat) (t1 t2 : AV) (s : Sto) (QR : QT) : Prop := Wp (env R) (LFE (env R) 64 n0 ro rt) 28 [.tmp 4] (sub b64 [1,1]) [] [(1,t1),(2,t2)] s QR
def P64_2 (R : RT) (n0 ro rt : Nat) (t1 t2 t5 : AV) (s : Sto) (QR : QT) : Prop := Wp (env R) (LFE (env R) 64 n0 ro rt) 28 [.tmp 4] (.loop (sub b64 [1,1,0,1,0,0])) [.blk 0,.seq (sub b64 [1,1,1])] [(1,t1),(2,t2),(5,t5)] s QR
def P64_3 (R : RT) (n0 ro rt : Nat) (t1 t2 t5 : AV) (s : Sto) (QR : QT) : Prop := Wp (env R) (LFE (env R) 64 n0 ro rt) 28 [.tmp 4] (sub b64 [1,1,0,1,0,0,1]) [.loop (sub b64 [1,1,0,1,0,0]),.blk 0,.seq (sub b64 [1,1,1])] [(1,t1),(2,t2),(5,t5)] s QR
def P64_4 (R : RT) (n0 ro rt : Nat) (t1 : AV) (s : Sto) (QR : QT) : Prop := Wp (env R) (LFE (env R) 64 n0 ro rt) 28 [.tmp 4] (sub b64 [1,1,1]) [] [(1,t1)] s QR
def P64_5 (R : RT) (n0 ro rt : Nat) (t1 t2 t5 : AV) (s : Sto) (QR : QT) : Prop := Wp (env R) (LFE (env R) 64 n0 ro rt) 28 [.tmp 4] (sub b64 [1,1,0,1,0,0,1,1]) [.loop (sub b64 [1,1,0,1,0,0]),.blk 0,.seq (sub b64 [1,1,1])] [(1,t1),(2,t2),(5,t5)] s QR
theorem p64_0 {t0 t1 : AV} (h :
 wBox s t0 fun a2 s1x0 =>
 wFad s1x0 a2 0 fun a6 =>
 wLd (env R) s1x0 none a6 fun a7 =>
 wInt .i64 .eql a7 (I64 2) fun a8 =>
 wCond a8 (
 wFad s1x0 a2 1 fun a10 =>
 wLd (env R) s1x0 none a10 fun a11 =>
 wCall (env R) (LFE (env R) 64 n0 ro rt) (.func (.func 87) [] []) [t1,a11] s1x0 fun a12 s1x1 =>
 P64_1 R n0 ro rt a12 a2 s1x1 QR) (
 P64_1 R n0 ro rt t1 a2 s1x0 QR)) : P64_0 R n0 ro rt t0 t1 s QR :=
  wpc_mp (lv := lv64) (ct := ct64) _ _ _ _ h (by kernel_rfl)
theorem p64_1 {t1 t2 : AV} (h :
 P64_2 R n0 ro rt t1 t2 (I64 0) s QR) : P64_1 R n0 ro rt t1 t2 s QR :=
  wpc_mp (lv := lv64) (ct := ct64) _ _ _ _ h (by kernel_rfl)
theorem p64_2 {t1 t2 t5 : AV} (h :
 wFad s t2 3 fun a14 =>
 wLd (env R) s none a14 fun a15 =>
 wLen s a15 fun a16 =>
 wInt .i64 .lss t5 a16 fun a17 =>
 wCond a17 (
 P64_3 R n0 ro rt t1 t2 t5 s QR) (
 P64_4 R n0 ro rt t1 s QR)) : P64_2 R n0 ro rt t1 t2 t5 s QR :=
  wpl_mp (lv := lv64) (ct := ct64) _ _ _ _ h (by kernel_rfl)
theorem p64_3 {t1 t2 t5 : AV} (h :
 wFad s t2 3 fun a20 =>
 wLd (env R) s none a20 fun a21 =>
 wIdx s 4 a21 t5 fun a23 =>
 wLd (env R) s (some 4) a23 fun a24 =>
 wCall (env R) (LFE (env R) 64 n0 ro rt) (.func (.func 64) [] []) [a24,t1] s fun a26 s1x0 =>
 P64_5 R n0 ro rt a26 t2 t5 s1x0 QR) : P64_3 R n0 ro rt t1 t2 t5 s QR :=
  wpc_mp (lv := lv64) (ct := ct64) _ _ _ _ h (by kernel_rfl)
theorem p64_4 {t1 : AV} (h :
 QR t1 s) : P64_4 R n0 ro rt t1 s QR :=
  wpc_mp (lv := lv64) (ct := ct64) _ _ _ _ h (by kernel_rfl)
theorem p64_5 {t1 t2 t5 : AV} (h :
 wInt .i64 .add t5 (I64 1) fun a19 =>
 P64_2 R n0 ro rt t1 t2 a19 s QR) : P64_5 R n0 ro rt t1 t2 t5 s QR :=
  wpc_mp (lv := lv64) (ct := ct64) _ _ _ _ h (by kernel_rfl)
theorem e64 {R : RT} {t0 t1 : AV} {u0 u1 : AV} {Post : AV → Prop} (hcl : closeL [] 0 0 [t0,t1] = some [u0,u1]) (h : P64_0 R 0 0 0 u0 u1 ⟨[],[]⟩ (QP Post)) : PureC (env R) 64 [t0,t1] Post :=
  call_rd (fn := Tryz.f64) (body := b64) Tryz.func64 (by kernel_rfl) (by kernel_rfl) (by kernel_rfl) (Nat.le_of_ble_eq_true (by kernel_rfl)) hcl (mpK h (by kernel_rfl))
noncomputable def b87 : Code := Tryz.f87.body.getD .skip
def lv87 (f : Nat) : List Nat := bif Nat.blt f 4 then (
 bif Nat.blt f 2 then (
  bif Nat.beq f 1 then [0,1] else []) else (
  bif Nat.blt f 3 then (
   bif Nat.beq f 2 then [0,1,5] else []) else (
   bif Nat.beq f 3 then [0,1,5] else []))) else (
 bif Nat.blt f 5 then (
  bif Nat.beq f 4 then [0,1,5] else []) else (
  bif Nat.blt f 6 then (
   bif Nat.beq f 5 then [0,1,5,31] else []) else (
   bif Nat.beq f 6 then [0,1,5] else [])))
def ct87 (f : Nat) : Bool := false
def P87_0 (R : RT) (n0 ro rt : Nat) (t0 t1 : AV) (s : Sto) (QR : QT) : Prop := Wp (env R) (LFE (env R) 87 n0 ro rt) 45 [.tmp 4] (sub b87 []) [] [(0,t0),(1,t1)] s QR
def P87_1 (R : RT) (n0 ro rt : Nat) (t0 t1 t5 : AV) (s : Sto) (QR : QT) : Prop := Wp (env R) (LFE (env R) 87 n0 ro rt) 45 [.tmp 4] (.loop (sub b87 [1,1,0,0,0])) [.blk 0,.seq (sub b87 [1,1,1])] [(0,t0),(1,t1),(5,t5)] s QR
def P87_2 (R : RT) (n0 ro rt : Nat) (t0 t1 t5 : AV) (s : Sto) (QR : QT) : Prop := Wp (env R) (LFE (env R) 87 n0 ro rt) 45 [.tmp 4] (sub b87 [1,1,0,0,0,1]) [.loop (sub b87 [1,1,0,0,0]),.blk 0,.seq (sub b87 [1,1,1])] [(0,t0),(1,t1),(5,t5)] s QR
def P87_3 (R : RT) (n0 ro rt : Nat) (t0 t1 t5 : AV) (s : Sto) (QR : QT) : Prop := Wp (env R) (LFE (env R) 87 n0 ro rt) 45 [.tmp 4] (sub b87 [1,1,1]) [] [(0,t0),(1,t1),(5,t5)] s QR
def P87_4 (R : RT) (n0 ro rt : Nat) (t0 t1 t5 : AV) (s : Sto) (QR : QT) : Prop := Wp (env R) (LFE (env R) 87 n0 ro rt) 45 [.tmp 4] (sub b87 [1,1,1,1]) [] [(0,t0),(1,t1),(5,t5)] s QR
theorem p87_0 {t0 t1 : AV} (h :
 P87_1 R n0 ro rt t0 t1 (I64 0) s QR) : P87_0 R n0 ro rt t0 t1 s QR :=
  wpc_mp (lv := lv87) (ct := ct87) _ _ _ _ h (by kernel_rfl)
theorem p87_1 {t0 t1 t5 : AV} (h :
 wLen s t0 fun a8 =>
 wInt .i64 .lss t5 a8 fun a9 =>
 wGK a9 true s (fun K => K t0 s) fun a11 s1x0 =>
 wGK a9 true s1x0 (fun K => K t5 s1x0) fun a12 s1x1 =>
 wGK a9 true s1x1 (fun K => wIdx s1x1 1 a11 a12 fun a13 => K a13 s1x1) fun a13x2 s1x3 =>
 wGK a9 true s1x3 (fun K => wLd (env R) s1x3 none a13x2 fun a14 => K a14 s1x3) fun a14x4 s1x5 =>
 wGK a9 true s1x5 (fun K => K t1 s1x5) fun a15 s1x6 =>
 wGK a9 true s1x6 (fun K => wStr .lss a14x4 a15 fun a16 => K a16 s1x6) fun a16x7 s1x8 =>
 wPick a9 a16x7 (BB false) fun a17 =>
 wCond a17 (
 P87_2 R n0 ro rt t0 t1 t5 s1x8 QR) (
 P87_3 R n0 ro rt t0 t1 t5 s1x8 QR)) : P87_1 R n0 ro rt t0 t1 t5 s QR :=
  wpl_mp (lv := lv87) (ct := ct87) _ _ _ _ h (by kernel_rfl)
theorem p87_2 {t0 t1 t5 : AV} (h :
 wInt .i64 .add t5 (I64 1) fun a19 =>
 P87_1 R n0 ro rt t0 t1 a19 s QR) : P87_2 R n0 ro rt t0 t1 t5 s QR :=
  wpc_mp (lv := lv87) (ct := ct87) _ _ _ _ h (by kernel_rfl)
theorem p87_3 {t0 t1 t5 : AV} (h :
 wLen s t0 fun a22 =>
 wInt .i64 .lss t5 a22 fun a23 =>
 wGK a23 true s (fun K => K t0 s) fun a25 s1x0 =>
 wGK a23 true s1x0 (fun K => K t5 s1x0) fun a26 s1x1 =>
 wGK a23 true s1x1 (fun K => wIdx s1x1 1 a25 a26 fun a27 => K a27 s1x1) fun a27x2 s1x3 =>
 wGK a23 true s1x3 (fun K => wLd (env R) s1x3 none a27x2 fun a28 => K a28 s1x3) fun a28x4 s1x5 =>
 wGK a23 true s1x5 (fun K => K t1 s1x5) fun a29 s1x6 =>
 wGK a23 true s1x6 (fun K => wStr .eql a28x4 a29 fun a30 => K a30 s1x6) fun a30x7 s1x8 =>
 wPick a23 a30x7 (BB false) fun a31 =>
 wCond a31 (
 QR t0 s1x8) (
 P87_4 R n0 ro rt t0 t1 t5 s1x8 QR)) : P87_3 R n0 ro rt t0 t1 t5 s QR :=
  wpc_mp (lv := lv87) (ct := ct87) _ _ _ _ h (by kernel_rfl)
theorem p87_4 {t0 t1 t5 : AV} (h :
 wBsl false s 1 [(SS [])] 0 [] fun a33 s1x0 =>
 wSlc s 1 t0 none (some t5) none fun a36 =>
(1 = 1 ∧ 1 ≠ 0) ∧ wApp false (LFE (env R) 87 n0 ro rt) s 9 1 16 a33 a36 fun a37 s1x1 =>
 wBsl false s1x1 1 [(SS [])] 1 [(0,1,t1)] fun a39 s1x2 =>
(1 = 1 ∧ 1 ≠ 0) ∧ wApp false (LFE (env R) 87 n0 ro rt) s1x1 9 1 16 a37 a39 fun a40 s1x3 =>
 wSlc s1x3 1 t0 (some t5) none none fun a43 =>
(1 = 1 ∧ 1 ≠ 0) ∧ wApp false (LFE (env R) 87 n0 ro rt) s1x3 9 1 16 a40 a43 fun a44 s1x4 =>
(wSlc s 1 t0 (some t5) none none fun v => eqA v a43 = true) ∧
(wSlc s1x1 1 t0 (some t5) none none fun vx5 => eqA vx5 a43 = true) ∧
 QR a44 s1x4) : P87_4 R n0 ro rt t0 t1 t5 s QR :=
  wpc_mp (lv := lv87) (ct := ct87) _ _ _ _ h (by kernel_rfl)
theorem e87 {R : RT} {t0 t1 : AV} {u0 u1 : AV} {Post : AV → Prop} (hcl : closeL [] 0 0 [t0,t1] = some [u0,u1]) (h : P87_0 R 0 0 0 u0 u1 ⟨[],[]⟩ (QP Post)) : PureC (env R) 87 [t0,t1] Post :=
  call_rd (fn := Tryz.f87) (body := b87) Tryz.func87 (by kernel_rfl) (by kernel_rfl) (by kernel_rfl) (Nat.le_of_ble_eq_true (by kernel_rfl)) hcl (mpK h (by kernel_rfl))
noncomputable def b37 : Code := Tryz.f37.body.getD .skip
def lv37 (f : Nat) : List Nat := bif Nat.blt f 14 then (
 bif Nat.blt f 7 then (
  bif Nat.blt f 4 then (
   bif Nat.blt f 2 then (
    bif Nat.beq f 1 then [1,2,3] else []) else (
    bif Nat.beq f 2 then [1,2,3] else [])) else (
   bif Nat.blt f 5 then (
    bif Nat.beq f 4 then [1,2,3,11] else []) else (
    bif Nat.beq f 5 then [1,2,3,11,12] else []))) else (
  bif Nat.blt f 10 then (
   bif Nat.blt f 9 then (
    bif Nat.beq f 7 then [1,2,3,11,14] else []) else (
    bif Nat.beq f 9 then [1,2,3,11,16] else [])) else (
   bif Nat.blt f 11 then (
    bif Nat.beq f 10 then [2,3,22] else []) else (
    bif Nat.blt f 13 then (
     bif Nat.beq f 11 then [2,3] else []) else (
     bif Nat.beq f 13 then [1,2,3,11,39] else []))))) else (
 bif Nat.blt f 21 then (
  bif Nat.blt f 17 then (
   bif Nat.blt f 16 then (
    bif Nat.beq f 14 then [1,2,3,8] else []) else (
    bif Nat.beq f 16 then [1,2,3,11,72] else [])) else (
   bif Nat.blt f 18 then (
    bif Nat.beq f 17 then [1,2,3,77] else []) else (
    bif Nat.blt f 20 then (
     bif Nat.beq f 18 then [1,2,3] else []) else (
     bif Nat.beq f 20 then [1,2,3,83] else [])))) else (
  bif Nat.blt f 23 then (
   bif Nat.blt f 22 then (
    bif Nat.beq f 21 then [1,2,3,7] else []) else (
    bif Nat.beq f 22 then [1,2,3,7,9] else [])) else (
   bif Nat.blt f 24 then (
    bif Nat.beq f 23 then [1,2,3,7,9] else []) else (
    bif Nat.blt f 25 then (
     bif Nat.beq f 24 then [1,2,3,7,9] else []) else (
     bif Nat.beq f 25 then [7] else [])))))
def ct37 (f : Nat) : Bool := false
def P37_0 (R : RT) (n0 ro rt : Nat) (t0 t1 t2 : AV) (s : Sto) (QR : QT) : Prop := Wp (env R) (LFE (env R) 37 n0 ro rt) 105 [.tmp 6] (sub b37 []) [] [(0,t0),(1,t1),(2,t2)] s QR
def P37_1 (R : RT) (n0 ro rt : Nat) (t2 t3 : AV) (s : Sto) (QR : QT) : Prop := Wp (env R) (LFE (env R) 37 n0 ro rt) 105 [.tmp 6] (sub b37 [1,1,0,1,0,1,1,1,1,1,0,1]) [.blk 0,.seq (sub b37 [1,1,1])] [(2,t2),(3,t3)] s QR
def P37_2 (R : RT) (n0 ro rt : Nat) (t1 t2 t3 : AV) (s : Sto) (QR : QT) : Prop := Wp (env R) (LFE (env R) 37 n0 ro rt) 105 [.tmp 6] (sub b37 [1,1,0,1,0,1,1,1,1,1,1,1,1,1,0,1]) [.blk 0,.seq (sub b37 [1,1,1])] [(1,t1),(2,t2),(3,t3)] s QR
def P37_3 (R : RT) (n0 ro rt : Nat) (t1 t2 t3 t7 : AV) (s : Sto) (QR : QT) : Prop := Wp (env R) (LFE (env R) 37 n0 ro rt) 105 [.tmp 6] (sub b37 [1,1,1]) [] [(1,t1),(2,t2),(3,t3),(7,t7)] s QR
def P37_4 (R : RT) (n0 ro rt : Nat) (t1 t2 t3 t7 t9 : AV) (s : Sto) (QR : QT) : Prop := Wp (env R) (LFE (env R) 37 n0 ro rt) 105 [.tmp 6] (.loop (sub b37 [1,1,1,0,1,0,0])) [.blk 1,.seq (sub b37 [1,1,1,1])] [(1,t1),(2,t2),(3,t3),(7,t7),(9,t9)] s QR
def P37_5 (R : RT) (n0 ro rt : Nat) (t1 t2 t3 t7 t9 : AV) (s : Sto) (QR : QT) : Prop := Wp (env R) (LFE (env R) 37 n0 ro rt) 105 [.tmp 6] (sub b37 [1,1,1,0,1,0,0,1]) [.loop (sub b37 [1,1,1,0,1,0,0]),.blk 1,.seq (sub b37 [1,1,1,1])] [(1,t1),(2,t2),(3,t3),(7,t7),(9,t9)] s QR
def P37_6 (R : RT) (n0 ro rt : Nat) (t7 : AV) (s : Sto) (QR : QT) : Prop := Wp (env R) (LFE (env R) 37 n0 ro rt) 105 [.tmp 6] (sub b37 [1,1,1,1]) [] [(7,t7)] s QR
def P37_7 (R : RT) (n0 ro rt : Nat) (t1 t2 t3 t7 t9 : AV) (s : Sto) (QR : QT) : Prop := Wp (env R) (LFE (env R) 37 n0 ro rt) 105 [.tmp 6] (sub b37 [1,1,1,0,1,0,0,1,1]) [.loop (sub b37 [1,1,1,0,1,0,0]),.blk 1,.seq (sub b37 [1,1,1,1])] [(1,t1),(2,t2),(3,t3),(7,t7),(9,t9)] s QR
theorem p37_0 {t0 t1 t2 : AV} (h :
 wBox s t0 fun a3 s1x0 =>
 wFad s1x0 a3 0 fun a10 =>
 wLd (env R) s1x0 none a10 fun a11 =>
 wInt .i64 .eql a11 (I64 0) fun a13 =>
 wCond a13 (
 QR (SS [65,110,121]) s1x0) (
 wInt .i64 .eql a11 (I64 1) fun a15 =>
 wCond a15 (
 QR (SS [78,101,118,101,114]) s1x0) (
 wInt .i64 .eql a11 (I64 5) fun a17 =>
 wCond a17 (
 wFad s1x0 a3 2 fun a18 =>
 wLd (env R) s1x0 none a18 fun a19 =>
 wLen s1x0 t2 fun a21 =>
 wInt .i64 .lss a19 a21 fun a22 =>
 wCond a22 (
 wLen s1x0 t2 fun a25 =>
 wInt .i64 .sub a25 (I64 1) fun a26 =>
 wFad s1x0 a3 2 fun a27 =>
 wLd (env R) s1x0 none a27 fun a28 =>
 wInt .i64 .sub a26 a28 fun a29 =>
 wIdx s1x0 1 t2 a29 fun a30 =>
 wLd (env R) s1x0 none a30 fun a31 =>
 QR a31 s1x0) (
 P37_1 R n0 ro rt t2 a3 s1x0 QR)) (
 wInt .i64 .eql a11 (I64 6) fun a40 =>
 wCond a40 (
 wBsl false s1x0 1 [(SS [])] 0 [] fun a41 s1x1 =>
(1 = 1 ∧ 1 ≠ 0) ∧ wApp false (LFE (env R) 37 n0 ro rt) s1x1 9 1 16 a41 t1 fun a43 s1x2 =>
(1 = 1 ∧ 1 ≠ 0) ∧ wApp false (LFE (env R) 37 n0 ro rt) s1x2 9 1 16 a43 t2 fun a45 s1x3 =>
 wCall (env R) (LFE (env R) 37 n0 ro rt) (.func (.func 63) [] []) [a45] s1x3 fun a46 s1x4 =>
 wStr .add (SS [40,101,120,105,115,116,115,32]) a46 fun a48 =>
 wStr .add a48 (SS [32]) fun a49 =>
 wFad s1x4 a3 3 fun a50 =>
 wLd (env R) s1x4 none a50 fun a51 =>
 wIdx s1x4 4 a51 (I64 0) fun a52 =>
 wLd (env R) s1x4 (some 4) a52 fun a53 =>
 wCall (env R) (LFE (env R) 37 n0 ro rt) (.func (.func 37) [] []) [a53,t1,(.capped [])] s1x4 fun a55 s1x5 =>
 wStr .add a49 a55 fun a56 =>
 wStr .add a56 (SS [32]) fun a57 =>
 wFad s1x5 a3 3 fun a58 =>
 wLd (env R) s1x5 none a58 fun a59 =>
 wIdx s1x5 4 a59 (I64 1) fun a60 =>
 wLd (env R) s1x5 (some 4) a60 fun a61 =>
 wBsl false s1x5 1 [(SS [])] 0 [] fun a63 s1x6 =>
(1 = 1 ∧ 1 ≠ 0) ∧ wApp false (LFE (env R) 37 n0 ro rt) s1x5 9 1 16 a63 t2 fun a65 s1x7 =>
 wBsl false s1x7 1 [(SS [])] 1 [(0,1,a46)] fun a67 s1x8 =>
(1 = 1 ∧ 1 ≠ 0) ∧ wApp false (LFE (env R) 37 n0 ro rt) s1x7 9 1 16 a65 a67 fun a68 s1x9 =>
 wCall (env R) (LFE (env R) 37 n0 ro rt) (.func (.func 37) [] []) [a61,t1,a68] s1x9 fun a69 s1x10 =>
 wStr .add a57 a69 fun a70 =>
 wStr .add a70 (SS [41]) fun a71 =>
(wStr .add (SS [40,101,120,105,115,116,115,32]) a46 fun v => eqA v a48 = true) ∧
(wStr .add (SS [40,101,120,105,115,116,115,32]) a46 fun vx11 => eqA vx11 a48 = true) ∧
(wStr .add (SS [40,101,120,105,115,116,115,32]) a46 fun vx12 => eqA vx12 a48 = true) ∧
(wStr .add (SS [40,101,120,105,115,116,115,32]) a46 fun vx13 => eqA vx13 a48 = true) ∧
(wStr .add a48 (SS [32]) fun vx14 => eqA vx14 a49 = true) ∧
(wStr .add a48 (SS [32]) fun vx15 => eqA vx15 a49 = true) ∧
(wStr .add a48 (SS [32]) fun vx16 => eqA vx16 a49 = true) ∧
(wStr .add a48 (SS [32]) fun vx17 => eqA vx17 a49 = true) ∧
(wStr .add a49 a55 fun vx18 => eqA vx18 a56 = true) ∧
(wStr .add a49 a55 fun vx19 => eqA vx19 a56 = true) ∧
(wStr .add a49 a55 fun vx20 => eqA vx20 a56 = true) ∧
(wStr .add a56 (SS [32]) fun vx21 => eqA vx21 a57 = true) ∧
(wStr .add a56 (SS [32]) fun vx22 => eqA vx22 a57 = true) ∧
(wStr .add a56 (SS [32]) fun vx23 => eqA vx23 a57 = true) ∧
(wFad s1x4 a3 3 fun vx24 => eqA vx24 a58 = true) ∧
(wFad s1x7 a3 3 fun vx25 => eqA vx25 a58 = true) ∧
(wFad s1x9 a3 3 fun vx26 => eqA vx26 a58 = true) ∧
(wLd (env R) s1x4 none a58 fun vx27 => eqA vx27 a59 = true) ∧
(wLd (env R) s1x7 none a58 fun vx28 => eqA vx28 a59 = true) ∧
(wLd (env R) s1x9 none a58 fun vx29 => eqA vx29 a59 = true) ∧
(wIdx s1x4 4 a59 (I64 1) fun vx30 => eqA vx30 a60 = true) ∧
(wIdx s1x7 4 a59 (I64 1) fun vx31 => eqA vx31 a60 = true) ∧
(wIdx s1x9 4 a59 (I64 1) fun vx32 => eqA vx32 a60 = true) ∧
(wLd (env R) s1x4 (some 4) a60 fun vx33 => eqA vx33 a61 = true) ∧
(wLd (env R) s1x7 (some 4) a60 fun vx34 => eqA vx34 a61 = true) ∧
(wLd (env R) s1x9 (some 4) a60 fun vx35 => eqA vx35 a61 = true) ∧
 QR a71 s1x10) (
 wInt .i64 .eql a11 (I64 2) fun a73 =>
 wCond a73 (
 wFad s1x0 a3 3 fun a74 =>
 wLd (env R) s1x0 none a74 fun a75 =>
 wLen s1x0 a75 fun a76 =>
 wInt .i64 .eql a76 (I64 0) fun a77 =>
 wCond a77 (
 wFad s1x0 a3 1 fun a78 =>
 wLd (env R) s1x0 none a78 fun a79 =>
 QR a79 s1x0) (
 P37_2 R n0 ro rt t1 t2 a3 s1x0 QR)) (
 wInt .i64 .eql a11 (I64 3) fun a84 =>
 wCond a84 (
 P37_3 R n0 ro rt t1 t2 a3 (SS [40,116,117,112,108,101]) s1x0 QR) (
 P37_3 R n0 ro rt t1 t2 a3 (SS [40,117,110,105,111,110]) s1x0 QR))))))) : P37_0 R n0 ro rt t0 t1 t2 s QR :=
  wpc_mp (lv := lv37) (ct := ct37) _ _ _ _ h (by kernel_rfl)
theorem p37_1 {t2 t3 : AV} (h :
 wFad s t3 2 fun a32 =>
 wLd (env R) s none a32 fun a33 =>
 wLen s t2 fun a35 =>
 wInt .i64 .sub a33 a35 fun a36 =>
 wCall (env R) (LFE (env R) 37 n0 ro rt) (.func (.func 62) [] []) [a36] s fun a37 s1x0 =>
 wStr .add (SS [36]) a37 fun a38 =>
 QR a38 s1x0) : P37_1 R n0 ro rt t2 t3 s QR :=
  wpc_mp (lv := lv37) (ct := ct37) _ _ _ _ h (by kernel_rfl)
theorem p37_2 {t1 t2 t3 : AV} (h :
 wFad s t3 1 fun a80 =>
 wLd (env R) s none a80 fun a81 =>
 wStr .add (SS [40]) a81 fun a82 =>
 P37_3 R n0 ro rt t1 t2 t3 a82 s QR) : P37_2 R n0 ro rt t1 t2 t3 s QR :=
  wpc_mp (lv := lv37) (ct := ct37) _ _ _ _ h (by kernel_rfl)
theorem p37_3 {t1 t2 t3 t7 : AV} (h :
 P37_4 R n0 ro rt t1 t2 t3 t7 (I64 0) s QR) : P37_3 R n0 ro rt t1 t2 t3 t7 s QR :=
  wpc_mp (lv := lv37) (ct := ct37) _ _ _ _ h (by kernel_rfl)
theorem p37_4 {t1 t2 t3 t7 t9 : AV} (h :
 wFad s t3 3 fun a86 =>
 wLd (env R) s none a86 fun a87 =>
 wLen s a87 fun a88 =>
 wInt .i64 .lss t9 a88 fun a89 =>
 wCond a89 (
 P37_5 R n0 ro rt t1 t2 t3 t7 t9 s QR) (
 P37_6 R n0 ro rt t7 s QR)) : P37_4 R n0 ro rt t1 t2 t3 t7 t9 s QR :=
  wpl_mp (lv := lv37) (ct := ct37) _ _ _ _ h (by kernel_rfl)
theorem p37_5 {t1 t2 t3 t7 t9 : AV} (h :
 wFad s t3 3 fun a93 =>
 wLd (env R) s none a93 fun a94 =>
 wIdx s 4 a94 t9 fun a96 =>
 wLd (env R) s (some 4) a96 fun a97 =>
 wCall (env R) (LFE (env R) 37 n0 ro rt) (.func (.func 37) [] []) [a97,t1,t2] s fun a100 s1x0 =>
 wStr .add (SS [32]) a100 fun a101 =>
 wStr .add t7 a101 fun a102 =>
 P37_7 R n0 ro rt t1 t2 t3 a102 t9 s1x0 QR) : P37_5 R n0 ro rt t1 t2 t3 t7 t9 s QR :=
  wpc_mp (lv := lv37) (ct := ct37) _ _ _ _ h (by kernel_rfl)
theorem p37_6 {t7 : AV} (h :
 wStr .add t7 (SS [41]) fun a104 =>
 QR a104 s) : P37_6 R n0 ro rt t7 s QR :=
  wpc_mp (lv := lv37) (ct := ct37) _ _ _ _ h (by kernel_rfl)
theorem p37_7 {t1 t2 t3 t7 t9 : AV} (h :
 wInt .i64 .add t9 (I64 1) fun a91 =>
 P37_4 R n0 ro rt t1 t2 t3 t7 a91 s QR) : P37_7 R n0 ro rt t1 t2 t3 t7 t9 s QR :=
  wpc_mp (lv := lv37) (ct := ct37) _ _ _ _ h (by kernel_rfl)
theorem e37 {R : RT} {t0 t1 t2 : AV} {u0 u1 u2 : AV} {Post : AV → Prop} (hcl : closeL [] 0 0 [t0,t1,t2] = some [u0,u1,u2]) (h : P37_0 R 0 0 0 u0 u1 u2 ⟨[],[]⟩ (QP Post)) : PureC (env R) 37 [t0,t1,t2] Post :=
  call_rd (fn := Tryz.f37) (body := b37) Tryz.func37 (by kernel_rfl) (by kernel_rfl) (by kernel_rfl) (Nat.le_of_ble_eq_true (by kernel_rfl)) hcl (mpK h (by kernel_rfl))
noncomputable def b63 : Code := Tryz.f63.body.getD .skip
def lv63 (f : Nat) : List Nat := bif Nat.blt f 6 then (
 bif Nat.blt f 3 then (
  bif Nat.blt f 2 then (
   bif Nat.beq f 1 then [0] else []) else (
   bif Nat.beq f 2 then [0,3] else [])) else (
  bif Nat.blt f 4 then (
   bif Nat.beq f 3 then [0,3] else []) else (
   bif Nat.blt f 5 then (
    bif Nat.beq f 4 then [0,3,4] else []) else (
    bif Nat.beq f 5 then [0,3,4] else [])))) else (
 bif Nat.blt f 8 then (
  bif Nat.blt f 7 then (
   bif Nat.beq f 6 then [0,3,4] else []) else (
   bif Nat.beq f 7 then [0,3,4,5] else [])) else (
  bif Nat.blt f 9 then (
   bif Nat.beq f 8 then [0,3,4,5,16] else []) else (
   bif Nat.blt f 10 then (
    bif Nat.beq f 9 then [0,3,4,5] else []) else (
    bif Nat.beq f 10 then [0,3,4,5,25] else []))))
def ct63 (f : Nat) : Bool := false
def P63_0 (R : RT) (n0 ro rt : Nat) (t0 : AV) (s : Sto) (QR : QT) : Prop := Wp (env R) (LFE (env R) 63 n0 ro rt) 27 [.tmp 2] (sub b63 []) [] [(0,t0)] s QR
def P63_1 (R : RT) (n0 ro rt : Nat) (t0 t3 : AV) (s : Sto) (QR : QT) : Prop := Wp (env R) (LFE (env R) 63 n0 ro rt) 27 [.tmp 2] (.loop (sub b63 [1,1,0,0])) [.blk 0] [(0,t0),(3,t3)] s QR
def P63_2 (R : RT) (n0 ro rt : Nat) (t0 t3 t4 : AV) (s : Sto) (QR : QT) : Prop := Wp (env R) (LFE (env R) 63 n0 ro rt) 27 [.tmp 2] (.loop (sub b63 [1,1,0,0,0,0,1,0,0])) [.blk 2,.blk 1,.seq (sub b63 [1,1,0,0,1]),.loop (sub b63 [1,1,0,0]),.blk 0] [(0,t0),(3,t3),(4,t4)] s QR
def P63_3 (R : RT) (n0 ro rt : Nat) (t0 t3 t4 : AV) (s : Sto) (QR : QT) : Prop := Wp (env R) (LFE (env R) 63 n0 ro rt) 27 [.tmp 2] (sub b63 [1,1,0,0,0,0,1,0,0,1]) [.loop (sub b63 [1,1,0,0,0,0,1,0,0]),.blk 2,.blk 1,.seq (sub b63 [1,1,0,0,1]),.loop (sub b63 [1,1,0,0]),.blk 0] [(0,t0),(3,t3),(4,t4)] s QR
def P63_4 (R : RT) (n0 ro rt : Nat) (t0 t3 : AV) (s : Sto) (QR : QT) : Prop := Wp (env R) (LFE (env R) 63 n0 ro rt) 27 [.tmp 2] (sub b63 [1,1,0,0,1]) [.loop (sub b63 [1,1,0,0]),.blk 0] [(0,t0),(3,t3)] s QR
def P63_5 (R : RT) (n0 ro rt : Nat) (t0 t3 t4 t5 : AV) (s : Sto) (QR : QT) : Prop := Wp (env R) (LFE (env R) 63 n0 ro rt) 27 [.tmp 2] (sub b63 [1,1,0,0,0,0,1,0,0,1,0,0,1,1]) [.blk 3,.seq (sub b63 [1,1,0,0,0,0,1,0,0,1,1]),.loop (sub b63 [1,1,0,0,0,0,1,0,0]),.blk 2,.blk 1,.seq (sub b63 [1,1,0,0,1]),.loop (sub b63 [1,1,0,0]),.blk 0] [(0,t0),(3,t3),(4,t4),(5,t5)] s QR
def P63_6 (R : RT) (n0 ro rt : Nat) (t0 t3 t4 : AV) (s : Sto) (QR : QT) : Prop := Wp (env R) (LFE (env R) 63 n0 ro rt) 27 [.tmp 2] (sub b63 [1,1,0,0,0,0,1,0,0,1,1]) [.loop (sub b63 [1,1,0,0,0,0,1,0,0]),.blk 2,.blk 1,.seq (sub b63 [1,1,0,0,1]),.loop (sub b63 [1,1,0,0]),.blk 0] [(0,t0),(3,t3),(4,t4)] s QR
theorem p63_0 {t0 : AV} (h :
 P63_1 R n0 ro rt t0 (I64 0) s QR) : P63_0 R n0 ro rt t0 s QR :=
  wpc_mp (lv := lv63) (ct := ct63) _ _ _ _ h (by kernel_rfl)
theorem p63_1 {t0 t3 : AV} (h :
 P63_2 R n0 ro rt t0 t3 (.pv (.sc (.int .u8 65))) s QR) : P63_1 R n0 ro rt t0 t3 s QR :=
  wpl_mp (lv := lv63) (ct := ct63) _ _ _ _ h (by kernel_rfl)
theorem p63_2 {t0 t3 t4 : AV} (h :
 wInt .u8 .leq t4 (.pv (.sc (.int .u8 90))) fun a9 =>
 wCond a9 (
 P63_3 R n0 ro rt t0 t3 t4 s QR) (
 P63_4 R n0 ro rt t0 t3 s QR)) : P63_2 R n0 ro rt t0 t3 t4 s QR :=
  wpl_mp (lv := lv63) (ct := ct63) _ _ _ _ h (by kernel_rfl)
theorem p63_3 {t0 t3 t4 : AV} (h :
 wBsl false s 1 [(.pv (.sc (.int .u8 0)))] 1 [(0,1,t4)] fun a13 s1x0 =>
 wO (sliceBytes s1x0 a13) fun a14 =>
 wInt .i64 .gtr t3 (I64 0) fun a16 =>
 wCond a16 (
 wCall (env R) (LFE (env R) 63 n0 ro rt) (.func (.func 62) [] []) [t3] s1x0 fun a19 s1x1 =>
 wStr .add (SS [95]) a19 fun a20 =>
 wStr .add (.pv (.sc (.string ⟨a14.toArray⟩))) a20 fun a21 =>
 P63_5 R n0 ro rt t0 t3 t4 a21 s1x1 QR) (
 P63_5 R n0 ro rt t0 t3 t4 (.pv (.sc (.string ⟨a14.toArray⟩))) s1x0 QR)) : P63_3 R n0 ro rt t0 t3 t4 s QR :=
  wpc_mp (lv := lv63) (ct := ct63) _ _ _ _ h (by kernel_rfl)
theorem p63_4 {t0 t3 : AV} (h :
 wInt .i64 .add t3 (I64 1) fun a7 =>
 P63_1 R n0 ro rt t0 a7 s QR) : P63_4 R n0 ro rt t0 t3 s QR :=
  wpc_mp (lv := lv63) (ct := ct63) _ _ _ _ h (by kernel_rfl)
theorem p63_5 {t0 t3 t4 t5 : AV} (h :
 wCall (env R) (LFE (env R) 63 n0 ro rt) (.func (.func 86) [] []) [t0,t5] s fun a24 s1x0 =>
 wNot a24 fun a25 =>
 wCond a25 (
 QR t5 s1x0) (
 P63_6 R n0 ro rt t0 t3 t4 s1x0 QR)) : P63_5 R n0 ro rt t0 t3 t4 t5 s QR :=
  wpc_mp (lv := lv63) (ct := ct63) _ _ _ _ h (by kernel_rfl)
theorem p63_6 {t0 t3 t4 : AV} (h :
 wInt .u8 .add t4 (.pv (.sc (.int .u8 1))) fun a11 =>
 P63_2 R n0 ro rt t0 t3 a11 s QR) : P63_6 R n0 ro rt t0 t3 t4 s QR :=
  wpc_mp (lv := lv63) (ct := ct63) _ _ _ _ h (by kernel_rfl)
theorem e63 {R : RT} {t0 : AV} {u0 : AV} {Post : AV → Prop} (hcl : closeL [] 0 0 [t0] = some [u0]) (h : P63_0 R 0 0 0 u0 ⟨[],[]⟩ (QP Post)) : PureC (env R) 63 [t0] Post :=
  call_rd (fn := Tryz.f63) (body := b63) Tryz.func63 (by kernel_rfl) (by kernel_rfl) (by kernel_rfl) (Nat.le_of_ble_eq_true (by kernel_rfl)) hcl (mpK h (by kernel_rfl))
noncomputable def b86 : Code := Tryz.f86.body.getD .skip
def lv86 (f : Nat) : List Nat := bif Nat.blt f 4 then (
 bif Nat.blt f 2 then (
  bif Nat.beq f 1 then [0,1] else []) else (
  bif Nat.blt f 3 then (
   bif Nat.beq f 2 then [0,1,5] else []) else (
   bif Nat.beq f 3 then [0,1,5] else []))) else (
 bif Nat.blt f 5 then (
  bif Nat.beq f 4 then [0,1,5] else []) else (
  bif Nat.blt f 6 then (
   bif Nat.beq f 5 then [0,1,5,17] else []) else (
   bif Nat.beq f 6 then [] else [])))
def ct86 (f : Nat) : Bool := false
def P86_0 (R : RT) (n0 ro rt : Nat) (t0 t1 : AV) (s : Sto) (QR : QT) : Prop := Wp (env R) (LFE (env R) 86 n0 ro rt) 18 [.tmp 4] (sub b86 []) [] [(0,t0),(1,t1)] s QR
def P86_1 (R : RT) (n0 ro rt : Nat) (t0 t1 t5 : AV) (s : Sto) (QR : QT) : Prop := Wp (env R) (LFE (env R) 86 n0 ro rt) 18 [.tmp 4] (.loop (sub b86 [1,0,1,0,0])) [.blk 0,.seq (sub b86 [1,1])] [(0,t0),(1,t1),(5,t5)] s QR
def P86_2 (R : RT) (n0 ro rt : Nat) (t0 t1 t5 : AV) (s : Sto) (QR : QT) : Prop := Wp (env R) (LFE (env R) 86 n0 ro rt) 18 [.tmp 4] (sub b86 [1,0,1,0,0,1]) [.loop (sub b86 [1,0,1,0,0]),.blk 0,.seq (sub b86 [1,1])] [(0,t0),(1,t1),(5,t5)] s QR
def P86_3 (R : RT) (n0 ro rt : Nat) (s : Sto) (QR : QT) : Prop := Wp (env R) (LFE (env R) 86 n0 ro rt) 18 [.tmp 4] (sub b86 [1,1]) [] [] s QR
def P86_4 (R : RT) (n0 ro rt : Nat) (t0 t1 t5 : AV) (s : Sto) (QR : QT) : Prop := Wp (env R) (LFE (env R) 86 n0 ro rt) 18 [.tmp 4] (sub b86 [1,0,1,0,0,1,1]) [.loop (sub b86 [1,0,1,0,0]),.blk 0,.seq (sub b86 [1,1])] [(0,t0),(1,t1),(5,t5)] s QR
theorem p86_0 {t0 t1 : AV} (h :
 P86_1 R n0 ro rt t0 t1 (I64 0) s QR) : P86_0 R n0 ro rt t0 t1 s QR :=
  wpc_mp (lv := lv86) (ct := ct86) _ _ _ _ h (by kernel_rfl)
theorem p86_1 {t0 t1 t5 : AV} (h :
 wLen s t0 fun a8 =>
 wInt .i64 .lss t5 a8 fun a9 =>
 wCond a9 (
 P86_2 R n0 ro rt t0 t1 t5 s QR) (
 P86_3 R n0 ro rt  s QR)) : P86_1 R n0 ro rt t0 t1 t5 s QR :=
  wpl_mp (lv := lv86) (ct := ct86) _ _ _ _ h (by kernel_rfl)
theorem p86_2 {t0 t1 t5 : AV} (h :
 wIdx s 1 t0 t5 fun a14 =>
 wLd (env R) s none a14 fun a15 =>
 wStr .eql a15 t1 fun a17 =>
 wCond a17 (
 QR (BB true) s) (
 P86_4 R n0 ro rt t0 t1 t5 s QR)) : P86_2 R n0 ro rt t0 t1 t5 s QR :=
  wpc_mp (lv := lv86) (ct := ct86) _ _ _ _ h (by kernel_rfl)
theorem p86_3 (h :
 QR (BB false) s) : P86_3 R n0 ro rt  s QR :=
  wpc_mp (lv := lv86) (ct := ct86) _ _ _ _ h (by kernel_rfl)
theorem p86_4 {t0 t1 t5 : AV} (h :
 wInt .i64 .add t5 (I64 1) fun a11 =>
 P86_1 R n0 ro rt t0 t1 a11 s QR) : P86_4 R n0 ro rt t0 t1 t5 s QR :=
  wpc_mp (lv := lv86) (ct := ct86) _ _ _ _ h (by kernel_rfl)
theorem e86 {R : RT} {t0 t1 : AV} {u0 u1 : AV} {Post : AV → Prop} (hcl : closeL [] 0 0 [t0,t1] = some [u0,u1]) (h : P86_0 R 0 0 0 u0 u1 ⟨[],[]⟩ (QP Post)) : PureC (env R) 86 [t0,t1] Post :=
  call_rd (fn := Tryz.f86) (body := b86) Tryz.func86 (by kernel_rfl) (by kernel_rfl) (by kernel_rfl) (Nat.le_of_ble_eq_true (by kernel_rfl)) hcl (mpK h (by kernel_rfl))
end Go.Proofs.YtmipbilokjkjiaaGreatDoor
