/-
  What the points of some functions' code need: written by a program (wip/tel/GenW.lean.txt).
-/
import Derived.Test.YtmipbilokjkjiaaGreatDoorTab
import Derived.Test.YtmipbilokjkjiaaGreatDoorWvF
set_option linter.unusedSimpArgs false
set_option linter.unusedVariables false
namespace Go.Proofs.YtmipbilokjkjiaaGreatDoor
open Go.Tel
variable {R : RT} {n0 ro rt : Nat} {s : Sto} {QR : QT}
noncomputable def b15 : Code := Tryz.f15.body.getD .skip
def lv15 (f : Nat) : List Nat := bif Nat.beq f 1 then [2,3] else []
def ct15 (f : Nat) : Bool := false
def P15_0 (R : RT) (n0 ro rt : Nat) (t0 t1 : AV) (s : Sto) (QR : QT) : Prop := Wp (env R) (LFE (env R) 15 n0 ro rt) 9 [.tmp 4] (sub b15 []) [] [(0,t0),(1,t1)] s QR
theorem p15_0 {t0 t1 : AV} (h :
 wBox s t0 fun a2 s1x0 =>
 wBox s1x0 t1 fun a3 s1x1 =>
 wLd (env R) s1x1 (some 4) a2 fun a5 =>
 wLd (env R) s1x1 (some 4) a3 fun a6 =>
 wCall (env R) (LFE (env R) 15 n0 ro rt) (.func (.func 43) [] []) [a5,a6] s1x1 fun a7 s1x2 =>
 wInt .i64 .eql a7 (I64 0) fun a8 =>
 QR a8 s1x2) : P15_0 R n0 ro rt t0 t1 s QR :=
  wpc_mp (lv := lv15) (ct := ct15) _ _ _ _ h (by kernel_rfl)
theorem e15 {R : RT} {t0 t1 : AV} {u0 u1 : AV} {Post : AV → Prop} (hcl : closeL [] 0 0 [t0,t1] = some [u0,u1]) (h : P15_0 R 0 0 0 u0 u1 ⟨[],[]⟩ (QP Post)) : PureC (env R) 15 [t0,t1] Post :=
  call_rd (fn := Tryz.f15) (body := b15) Tryz.func15 (by kernel_rfl) (by kernel_rfl) (by kernel_rfl) (Nat.le_of_ble_eq_true (by kernel_rfl)) hcl (mpK h (by kernel_rfl))
noncomputable def b43 : Code := Tryz.f43.body.getD .skip
def lv43 (f : Nat) : List Nat := bif Nat.blt f 10 then (
 bif Nat.blt f 6 then (
  bif Nat.blt f 2 then (
   bif Nat.beq f 1 then [2,3] else []) else (
   bif Nat.blt f 4 then (
    bif Nat.beq f 2 then [2,3,7] else []) else (
    bif Nat.beq f 4 then [2,3,19] else []))) else (
  bif Nat.blt f 8 then (
   bif Nat.beq f 6 then [2,3,31] else []) else (
   bif Nat.blt f 9 then (
    bif Nat.beq f 8 then [2,3,43] else []) else (
    bif Nat.beq f 9 then [2,3] else [])))) else (
 bif Nat.blt f 13 then (
  bif Nat.blt f 11 then (
   bif Nat.beq f 10 then [2,3,5] else []) else (
   bif Nat.blt f 12 then (
    bif Nat.beq f 11 then [2,3,5] else []) else (
    bif Nat.beq f 12 then [2,3,5] else []))) else (
  bif Nat.blt f 14 then (
   bif Nat.beq f 13 then [2,3,5,6] else []) else (
   bif Nat.blt f 15 then (
    bif Nat.beq f 14 then [2,3,5,6,78] else []) else (
    bif Nat.beq f 15 then [] else []))))
def ct43 (f : Nat) : Bool := false
def P43_0 (R : RT) (n0 ro rt : Nat) (t0 t1 : AV) (s : Sto) (QR : QT) : Prop := Wp (env R) (LFE (env R) 43 n0 ro rt) 80 [.tmp 4] (sub b43 []) [] [(0,t0),(1,t1)] s QR
def P43_1 (R : RT) (n0 ro rt : Nat) (t2 t3 : AV) (s : Sto) (QR : QT) : Prop := Wp (env R) (LFE (env R) 43 n0 ro rt) 80 [.tmp 4] (sub b43 [1,1]) [] [(2,t2),(3,t3)] s QR
def P43_2 (R : RT) (n0 ro rt : Nat) (t2 t3 t5 : AV) (s : Sto) (QR : QT) : Prop := Wp (env R) (LFE (env R) 43 n0 ro rt) 80 [.tmp 4] (.loop (sub b43 [1,1,0,1,0,0])) [.blk 1,.seq (sub b43 [1,1,1])] [(2,t2),(3,t3),(5,t5)] s QR
def P43_3 (R : RT) (n0 ro rt : Nat) (t2 t3 t5 : AV) (s : Sto) (QR : QT) : Prop := Wp (env R) (LFE (env R) 43 n0 ro rt) 80 [.tmp 4] (sub b43 [1,1,0,1,0,0,1]) [.loop (sub b43 [1,1,0,1,0,0]),.blk 1,.seq (sub b43 [1,1,1])] [(2,t2),(3,t3),(5,t5)] s QR
def P43_4 (R : RT) (n0 ro rt : Nat) (s : Sto) (QR : QT) : Prop := Wp (env R) (LFE (env R) 43 n0 ro rt) 80 [.tmp 4] (sub b43 [1,1,1]) [] [] s QR
def P43_5 (R : RT) (n0 ro rt : Nat) (t2 t3 t5 : AV) (s : Sto) (QR : QT) : Prop := Wp (env R) (LFE (env R) 43 n0 ro rt) 80 [.tmp 4] (sub b43 [1,1,0,1,0,0,1,1]) [.loop (sub b43 [1,1,0,1,0,0]),.blk 1,.seq (sub b43 [1,1,1])] [(2,t2),(3,t3),(5,t5)] s QR
theorem p43_0 {t0 t1 : AV} (h :
 wBox s t0 fun a2 s1x0 =>
 wBox s1x0 t1 fun a3 s1x1 =>
 wFad s1x1 a2 0 fun a8 =>
 wLd (env R) s1x1 none a8 fun a9 =>
 wFad s1x1 a3 0 fun a10 =>
 wLd (env R) s1x1 none a10 fun a11 =>
 wInt .i64 .neq a9 a11 fun a12 =>
 wCond a12 (
 wFad s1x1 a2 0 fun a13 =>
 wLd (env R) s1x1 none a13 fun a14 =>
 wFad s1x1 a3 0 fun a15 =>
 wLd (env R) s1x1 none a15 fun a16 =>
 wInt .i64 .lss a14 a16 fun a17 =>
 wCall (env R) (LFE (env R) 43 n0 ro rt) (.func (.func 71) [] []) [a17] s1x1 fun a18 s1x2 =>
 QR a18 s1x2) (
 wFad s1x1 a2 1 fun a20 =>
 wLd (env R) s1x1 none a20 fun a21 =>
 wFad s1x1 a3 1 fun a22 =>
 wLd (env R) s1x1 none a22 fun a23 =>
 wStr .neq a21 a23 fun a24 =>
 wCond a24 (
 wFad s1x1 a2 1 fun a25 =>
 wLd (env R) s1x1 none a25 fun a26 =>
 wFad s1x1 a3 1 fun a27 =>
 wLd (env R) s1x1 none a27 fun a28 =>
 wStr .lss a26 a28 fun a29 =>
 wCall (env R) (LFE (env R) 43 n0 ro rt) (.func (.func 71) [] []) [a29] s1x1 fun a30 s1x3 =>
 QR a30 s1x3) (
 wFad s1x1 a2 2 fun a32 =>
 wLd (env R) s1x1 none a32 fun a33 =>
 wFad s1x1 a3 2 fun a34 =>
 wLd (env R) s1x1 none a34 fun a35 =>
 wInt .i64 .neq a33 a35 fun a36 =>
 wCond a36 (
 wFad s1x1 a2 2 fun a37 =>
 wLd (env R) s1x1 none a37 fun a38 =>
 wFad s1x1 a3 2 fun a39 =>
 wLd (env R) s1x1 none a39 fun a40 =>
 wInt .i64 .lss a38 a40 fun a41 =>
 wCall (env R) (LFE (env R) 43 n0 ro rt) (.func (.func 71) [] []) [a41] s1x1 fun a42 s1x4 =>
 QR a42 s1x4) (
 wFad s1x1 a2 3 fun a44 =>
 wLd (env R) s1x1 none a44 fun a45 =>
 wLen s1x1 a45 fun a46 =>
 wFad s1x1 a3 3 fun a47 =>
 wLd (env R) s1x1 none a47 fun a48 =>
 wLen s1x1 a48 fun a49 =>
 wInt .i64 .neq a46 a49 fun a50 =>
 wCond a50 (
 wFad s1x1 a2 3 fun a51 =>
 wLd (env R) s1x1 none a51 fun a52 =>
 wLen s1x1 a52 fun a53 =>
 wFad s1x1 a3 3 fun a54 =>
 wLd (env R) s1x1 none a54 fun a55 =>
 wLen s1x1 a55 fun a56 =>
 wInt .i64 .lss a53 a56 fun a57 =>
 wCall (env R) (LFE (env R) 43 n0 ro rt) (.func (.func 71) [] []) [a57] s1x1 fun a58 s1x5 =>
 QR a58 s1x5) (
 P43_1 R n0 ro rt a2 a3 s1x1 QR))))) : P43_0 R n0 ro rt t0 t1 s QR :=
  wpc_mp (lv := lv43) (ct := ct43) _ _ _ _ h (by kernel_rfl)
theorem p43_1 {t2 t3 : AV} (h :
 P43_2 R n0 ro rt t2 t3 (I64 0) s QR) : P43_1 R n0 ro rt t2 t3 s QR :=
  wpc_mp (lv := lv43) (ct := ct43) _ _ _ _ h (by kernel_rfl)
theorem p43_2 {t2 t3 t5 : AV} (h :
 wFad s t2 3 fun a60 =>
 wLd (env R) s none a60 fun a61 =>
 wLen s a61 fun a62 =>
 wInt .i64 .lss t5 a62 fun a63 =>
 wCond a63 (
 P43_3 R n0 ro rt t2 t3 t5 s QR) (
 P43_4 R n0 ro rt  s QR)) : P43_2 R n0 ro rt t2 t3 t5 s QR :=
  wpl_mp (lv := lv43) (ct := ct43) _ _ _ _ h (by kernel_rfl)
theorem p43_3 {t2 t3 t5 : AV} (h :
 wFad s t2 3 fun a66 =>
 wLd (env R) s none a66 fun a67 =>
 wIdx s 4 a67 t5 fun a69 =>
 wLd (env R) s (some 4) a69 fun a70 =>
 wFad s t3 3 fun a71 =>
 wLd (env R) s none a71 fun a72 =>
 wIdx s 4 a72 t5 fun a74 =>
 wLd (env R) s (some 4) a74 fun a75 =>
 wCall (env R) (LFE (env R) 43 n0 ro rt) (.func (.func 43) [] []) [a70,a75] s fun a76 s1x0 =>
 wInt .i64 .neq a76 (I64 0) fun a78 =>
 wCond a78 (
 QR a76 s1x0) (
 P43_5 R n0 ro rt t2 t3 t5 s1x0 QR)) : P43_3 R n0 ro rt t2 t3 t5 s QR :=
  wpc_mp (lv := lv43) (ct := ct43) _ _ _ _ h (by kernel_rfl)
theorem p43_4 (h :
 QR (I64 0) s) : P43_4 R n0 ro rt  s QR :=
  wpc_mp (lv := lv43) (ct := ct43) _ _ _ _ h (by kernel_rfl)
theorem p43_5 {t2 t3 t5 : AV} (h :
 wInt .i64 .add t5 (I64 1) fun a65 =>
 P43_2 R n0 ro rt t2 t3 a65 s QR) : P43_5 R n0 ro rt t2 t3 t5 s QR :=
  wpc_mp (lv := lv43) (ct := ct43) _ _ _ _ h (by kernel_rfl)
theorem e43 {R : RT} {t0 t1 : AV} {u0 u1 : AV} {Post : AV → Prop} (hcl : closeL [] 0 0 [t0,t1] = some [u0,u1]) (h : P43_0 R 0 0 0 u0 u1 ⟨[],[]⟩ (QP Post)) : PureC (env R) 43 [t0,t1] Post :=
  call_rd (fn := Tryz.f43) (body := b43) Tryz.func43 (by kernel_rfl) (by kernel_rfl) (by kernel_rfl) (Nat.le_of_ble_eq_true (by kernel_rfl)) hcl (mpK h (by kernel_rfl))
noncomputable def b71 : Code := Tryz.f71.body.getD .skip
def lv71 (f : Nat) : List Nat := bif Nat.blt f 2 then (
 bif Nat.beq f 1 then [0] else []) else (
 bif Nat.blt f 3 then (
  bif Nat.beq f 2 then [3] else []) else (
  bif Nat.beq f 3 then [] else []))
def ct71 (f : Nat) : Bool := false
def P71_0 (R : RT) (n0 ro rt : Nat) (t0 : AV) (s : Sto) (QR : QT) : Prop := Wp (env R) (LFE (env R) 71 n0 ro rt) 4 [.tmp 2] (sub b71 []) [] [(0,t0)] s QR
def P71_1 (R : RT) (n0 ro rt : Nat) (s : Sto) (QR : QT) : Prop := Wp (env R) (LFE (env R) 71 n0 ro rt) 4 [.tmp 2] (sub b71 [1,1]) [] [] s QR
theorem p71_0 {t0 : AV} (h :
 wCond t0 (
 QR (I64 (-1)) s) (
 P71_1 R n0 ro rt  s QR)) : P71_0 R n0 ro rt t0 s QR :=
  wpc_mp (lv := lv71) (ct := ct71) _ _ _ _ h (by kernel_rfl)
theorem p71_1 (h :
 QR (I64 1) s) : P71_1 R n0 ro rt  s QR :=
  wpc_mp (lv := lv71) (ct := ct71) _ _ _ _ h (by kernel_rfl)
theorem e71 {R : RT} {t0 : AV} {u0 : AV} {Post : AV → Prop} (hcl : closeL [] 0 0 [t0] = some [u0]) (h : P71_0 R 0 0 0 u0 ⟨[],[]⟩ (QP Post)) : PureC (env R) 71 [t0] Post :=
  call_rd (fn := Tryz.f71) (body := b71) Tryz.func71 (by kernel_rfl) (by kernel_rfl) (by kernel_rfl) (Nat.le_of_ble_eq_true (by kernel_rfl)) hcl (mpK h (by kernel_rfl))
end Go.Proofs.YtmipbilokjkjiaaGreatDoor
