/-
  What the points of some functions' code need: written by a program (wip/tel/GenW.lean.txt).
-/
import Derived.Test.YtmipbilokjkjiaaGreatDoorTab
import Derived.Test.YtmipbilokjkjiaaGreatDoorWvF
set_option linter.unusedSimpArgs false
set_option linter.unusedVariables false
namespace Go.Proofs.YtmipbilokjkjiaaGreatDoor
open Go.Tel
/-! 28: telpher/typeterm.Validate -/
noncomputable def b28 : Code := Tryz.f28.body.getD .skip
def lv28 (f : Nat) : List Nat := bif Nat.blt f 4 then (
 bif Nat.blt f 2 then (
  bif Nat.beq f 1 then [1] else []) else (
  bif Nat.beq f 2 then [1,3] else [])) else (
 bif Nat.blt f 5 then (
  bif Nat.beq f 4 then [12] else []) else (
  bif Nat.beq f 5 then [] else []))
def ct28 (f : Nat) : Bool := false
def P28_0 (R : RT) (n0 ro rt : Nat) (t0 : AV) (s : Sto) (QR : QT) : Prop := Wp (env R) (LFE (env R) 28 n0 ro rt) 16 [.tmp 2] (sub b28 []) [] [(0,t0)] s QR
def P28_1 (R : RT) (n0 ro rt : Nat) (s : Sto) (QR : QT) : Prop := Wp (env R) (LFE (env R) 28 n0 ro rt) 16 [.tmp 2] (sub b28 [1,1]) [] [] s QR
theorem p28_0 {R : RT} {n0 ro rt : Nat} {t0 : AV} {s : Sto} {QR : QT} (h :
 wBox s t0 fun a1 s1x0 =>
 wLd (env R) s1x0 (some 4) a1 fun a4 =>
 wCall (env R) (LFE (env R) 28 n0 ro rt) (.func (.func 52) [] []) [a4] s1x0 fun a5 s1x1 =>
 wInt .i64 .gtr a5 (I64 200) fun a6 =>
 wGK a6 false s1x1 (fun K => wLd (env R) s1x1 (some 4) a1 fun a8 => K a8 s1x1) fun a8x2 s1x3 =>
 wGK a6 false s1x3 (fun K => wCall (env R) (LFE (env R) 28 n0 ro rt) (.func (.func 53) [] []) [a8x2] s1x3 fun a9 s1x4 => K a9 s1x4) fun a9x5 s1x6 =>
 wGK a6 false s1x6 (fun K => wInt .i64 .gtr a9x5 (I64 12) fun a10 => K a10 s1x6) fun a10x7 s1x8 =>
 wPick a6 (BB true) a10x7 fun a11 =>
 wCond a11 (
 QR (I64 4) s1x8) (
 wLd (env R) s1x8 (some 4) a1 fun a13 =>
 wCall (env R) (LFE (env R) 28 n0 ro rt) (.func (.func 54) [] []) [a13] s1x8 fun a14 s1x9 =>
 wNot a14 fun a15 =>
 wCond a15 (
 QR (I64 2) s1x9) (
 P28_1 R n0 ro rt  s1x9 QR))) : P28_0 R n0 ro rt t0 s QR :=
  wpc_mp (lv := lv28) (ct := ct28) _ _ _ _ h (by kernel_rfl)
theorem p28_1 {R : RT} {n0 ro rt : Nat} {s : Sto} {QR : QT} (h :
 QR (I64 0) s) : P28_1 R n0 ro rt  s QR :=
  wpc_mp (lv := lv28) (ct := ct28) _ _ _ _ h (by kernel_rfl)
theorem e28 {R : RT} {t0 : AV} {u0 : AV} {Post : AV → Prop} (hcl : closeL [] 0 0 [t0] = some [u0]) (h : P28_0 R 0 0 0 u0 ⟨[],[]⟩ (QP Post)) : PureC (env R) 28 [t0] Post :=
  call_rd (fn := Tryz.f28) (body := b28) Tryz.func28 (by kernel_rfl) (by kernel_rfl) (by kernel_rfl) (Nat.le_of_ble_eq_true (by kernel_rfl)) hcl (mpK h (by kernel_rfl))
/-! 52: telpher/typeterm.Size -/
noncomputable def b52 : Code := Tryz.f52.body.getD .skip
def lv52 (f : Nat) : List Nat := bif Nat.blt f 4 then (
 bif Nat.blt f 2 then (
  bif Nat.beq f 1 then [1] else []) else (
  bif Nat.blt f 3 then (
   bif Nat.beq f 2 then [1,3] else []) else (
   bif Nat.beq f 3 then [3,7,8,9] else []))) else (
 bif Nat.blt f 6 then (
  bif Nat.blt f 5 then (
   bif Nat.beq f 4 then [3,7,8,9,10] else []) else (
   bif Nat.beq f 5 then [3,5,7,8,9] else [])) else (
  bif Nat.blt f 7 then (
   bif Nat.beq f 6 then [3,7,8,9] else []) else (
   bif Nat.beq f 7 then [3] else [])))
def ct52 (f : Nat) : Bool := false
def P52_0 (R : RT) (n0 ro rt : Nat) (t0 : AV) (s : Sto) (QR : QT) : Prop := Wp (env R) (LFE (env R) 52 n0 ro rt) 19 [.tmp 2] (sub b52 []) [] [(0,t0)] s QR
def P52_1 (R : RT) (n0 ro rt : Nat) (t3 t7 t8 t9 : AV) (s : Sto) (QR : QT) : Prop := Wp (env R) (LFE (env R) 52 n0 ro rt) 19 [.tmp 2] (.loop (sub b52 [1,1,0,1,0,0])) [.blk 0,.seq (sub b52 [1,1,1])] [(3,t3),(7,t7),(8,t8),(9,t9)] s QR
def P52_2 (R : RT) (n0 ro rt : Nat) (t3 t7 t8 t9 t10 : AV) (s : Sto) (QR : QT) : Prop := Wp (env R) (LFE (env R) 52 n0 ro rt) 19 [.tmp 2] (sub b52 [1,1,0,1,0,0,1,1]) [.loop (sub b52 [1,1,0,1,0,0]),.blk 0,.seq (sub b52 [1,1,1])] [(3,t3),(7,t7),(8,t8),(9,t9),(10,t10)] s QR
def P52_3 (R : RT) (n0 ro rt : Nat) (t3 : AV) (s : Sto) (QR : QT) : Prop := Wp (env R) (LFE (env R) 52 n0 ro rt) 19 [.tmp 2] (sub b52 [1,1,1]) [] [(3,t3)] s QR
def P52_4 (R : RT) (n0 ro rt : Nat) (t3 t7 t8 t9 : AV) (s : Sto) (QR : QT) : Prop := Wp (env R) (LFE (env R) 52 n0 ro rt) 19 [.tmp 2] (sub b52 [1,1,0,1,0,0,1,1,1]) [.loop (sub b52 [1,1,0,1,0,0]),.blk 0,.seq (sub b52 [1,1,1])] [(3,t3),(7,t7),(8,t8),(9,t9)] s QR
theorem p52_0 {R : RT} {n0 ro rt : Nat} {t0 : AV} {s : Sto} {QR : QT} (h :
 wBox s t0 fun a1 s1x0 =>
 wFad s1x0 a1 3 fun a6 =>
 wLd (env R) s1x0 none a6 fun a7 =>
 wLen s1x0 a7 fun a8 =>
 P52_1 R n0 ro rt (I64 1) a7 a8 (I64 0) s1x0 QR) : P52_0 R n0 ro rt t0 s QR :=
  wpc_mp (lv := lv52) (ct := ct52) _ _ _ _ h (by kernel_rfl)
theorem p52_1 {R : RT} {n0 ro rt : Nat} {t3 t7 t8 t9 : AV} {s : Sto} {QR : QT} (h :
 wInt .i64 .lss t9 t8 fun a10 =>
 wCond a10 (
 P52_2 R n0 ro rt t3 t7 t8 t9 a10 s QR) (
 P52_3 R n0 ro rt t3 s QR)) : P52_1 R n0 ro rt t3 t7 t8 t9 s QR :=
  wpl_mp (lv := lv52) (ct := ct52) _ _ _ _ h (by kernel_rfl)
theorem p52_2 {R : RT} {n0 ro rt : Nat} {t3 t7 t8 t9 t10 : AV} {s : Sto} {QR : QT} (h :
 wIdx s 4 t7 t9 fun a11 =>
 wLd (env R) s (some 4) a11 fun a12 =>
 wNew s [(I64 0),(SS []),(I64 0),(.capped [])] fun a5 s1x0 =>
 wSt (LFE (env R) 52 n0 ro rt) s1x0 4 a5 a12 fun s1x1 =>
 wLd (env R) s1x1 (some 4) a5 fun a14 =>
 wCall (env R) (LFE (env R) 52 n0 ro rt) (.func (.func 52) [] []) [a14] s1x1 fun a15 s1x2 =>
 wInt .i64 .add t3 a15 fun a16 =>
 P52_4 R n0 ro rt a16 t7 t8 t9 s1x2 QR) : P52_2 R n0 ro rt t3 t7 t8 t9 t10 s QR :=
  wpc_mp (lv := lv52) (ct := ct52) _ _ _ _ h (by kernel_rfl)
theorem p52_3 {R : RT} {n0 ro rt : Nat} {t3 : AV} {s : Sto} {QR : QT} (h :
 QR t3 s) : P52_3 R n0 ro rt t3 s QR :=
  wpc_mp (lv := lv52) (ct := ct52) _ _ _ _ h (by kernel_rfl)
theorem p52_4 {R : RT} {n0 ro rt : Nat} {t3 t7 t8 t9 : AV} {s : Sto} {QR : QT} (h :
 wInt .i64 .add t9 (I64 1) fun a17 =>
 P52_1 R n0 ro rt t3 t7 t8 a17 s QR) : P52_4 R n0 ro rt t3 t7 t8 t9 s QR :=
  wpc_mp (lv := lv52) (ct := ct52) _ _ _ _ h (by kernel_rfl)
theorem e52 {R : RT} {t0 : AV} {u0 : AV} {Post : AV → Prop} (hcl : closeL [] 0 0 [t0] = some [u0]) (h : P52_0 R 0 0 0 u0 ⟨[],[]⟩ (QP Post)) : PureC (env R) 52 [t0] Post :=
  call_rd (fn := Tryz.f52) (body := b52) Tryz.func52 (by kernel_rfl) (by kernel_rfl) (by kernel_rfl) (Nat.le_of_ble_eq_true (by kernel_rfl)) hcl (mpK h (by kernel_rfl))
/-! 53: telpher/typeterm.Depth -/
noncomputable def b53 : Code := Tryz.f53.body.getD .skip
def lv53 (f : Nat) : List Nat := bif Nat.blt f 4 then (
 bif Nat.blt f 2 then (
  bif Nat.beq f 1 then [1] else []) else (
  bif Nat.blt f 3 then (
   bif Nat.beq f 2 then [1,3] else []) else (
   bif Nat.beq f 3 then [3,7,8,9] else []))) else (
 bif Nat.blt f 6 then (
  bif Nat.blt f 5 then (
   bif Nat.beq f 4 then [3,7,8,9,10] else []) else (
   bif Nat.beq f 5 then [3,5,7,8,9] else [])) else (
  bif Nat.blt f 7 then (
   bif Nat.beq f 6 then [3,7,8,9] else []) else (
   bif Nat.beq f 7 then [3] else [])))
def ct53 (f : Nat) : Bool := false
def P53_0 (R : RT) (n0 ro rt : Nat) (t0 : AV) (s : Sto) (QR : QT) : Prop := Wp (env R) (LFE (env R) 53 n0 ro rt) 20 [.tmp 2] (sub b53 []) [] [(0,t0)] s QR
def P53_1 (R : RT) (n0 ro rt : Nat) (t3 t7 t8 t9 : AV) (s : Sto) (QR : QT) : Prop := Wp (env R) (LFE (env R) 53 n0 ro rt) 20 [.tmp 2] (.loop (sub b53 [1,1,0,1,0,0])) [.blk 0,.seq (sub b53 [1,1,1])] [(3,t3),(7,t7),(8,t8),(9,t9)] s QR
def P53_2 (R : RT) (n0 ro rt : Nat) (t3 t7 t8 t9 t10 : AV) (s : Sto) (QR : QT) : Prop := Wp (env R) (LFE (env R) 53 n0 ro rt) 20 [.tmp 2] (sub b53 [1,1,0,1,0,0,1,1]) [.loop (sub b53 [1,1,0,1,0,0]),.blk 0,.seq (sub b53 [1,1,1])] [(3,t3),(7,t7),(8,t8),(9,t9),(10,t10)] s QR
def P53_3 (R : RT) (n0 ro rt : Nat) (t3 : AV) (s : Sto) (QR : QT) : Prop := Wp (env R) (LFE (env R) 53 n0 ro rt) 20 [.tmp 2] (sub b53 [1,1,1]) [] [(3,t3)] s QR
def P53_4 (R : RT) (n0 ro rt : Nat) (t3 t7 t8 t9 : AV) (s : Sto) (QR : QT) : Prop := Wp (env R) (LFE (env R) 53 n0 ro rt) 20 [.tmp 2] (sub b53 [1,1,0,1,0,0,1,1,1]) [.loop (sub b53 [1,1,0,1,0,0]),.blk 0,.seq (sub b53 [1,1,1])] [(3,t3),(7,t7),(8,t8),(9,t9)] s QR
theorem p53_0 {R : RT} {n0 ro rt : Nat} {t0 : AV} {s : Sto} {QR : QT} (h :
 wBox s t0 fun a1 s1x0 =>
 wFad s1x0 a1 3 fun a6 =>
 wLd (env R) s1x0 none a6 fun a7 =>
 wLen s1x0 a7 fun a8 =>
 P53_1 R n0 ro rt (I64 0) a7 a8 (I64 0) s1x0 QR) : P53_0 R n0 ro rt t0 s QR :=
  wpc_mp (lv := lv53) (ct := ct53) _ _ _ _ h (by kernel_rfl)
theorem p53_1 {R : RT} {n0 ro rt : Nat} {t3 t7 t8 t9 : AV} {s : Sto} {QR : QT} (h :
 wInt .i64 .lss t9 t8 fun a10 =>
 wCond a10 (
 P53_2 R n0 ro rt t3 t7 t8 t9 a10 s QR) (
 P53_3 R n0 ro rt t3 s QR)) : P53_1 R n0 ro rt t3 t7 t8 t9 s QR :=
  wpl_mp (lv := lv53) (ct := ct53) _ _ _ _ h (by kernel_rfl)
theorem p53_2 {R : RT} {n0 ro rt : Nat} {t3 t7 t8 t9 t10 : AV} {s : Sto} {QR : QT} (h :
 wIdx s 4 t7 t9 fun a11 =>
 wLd (env R) s (some 4) a11 fun a12 =>
 wNew s [(I64 0),(SS []),(I64 0),(.capped [])] fun a5 s1x0 =>
 wSt (LFE (env R) 53 n0 ro rt) s1x0 4 a5 a12 fun s1x1 =>
 wLd (env R) s1x1 (some 4) a5 fun a14 =>
 wCall (env R) (LFE (env R) 53 n0 ro rt) (.func (.func 53) [] []) [a14] s1x1 fun a15 s1x2 =>
 wAnyT (env R) (LFE (env R) 53 n0 ro rt) s1x2 (lkE [(15,a15),(14,a14),(13,t3),(5,a5),(12,a12),(11,a11),(3,t3),(7,t7),(8,t8),(9,t9),(10,t10)]) (opOf (sub b53 [1,1,0,1,0,0,1,1,0,0,1]) 3) fun a16 s1x3 =>
 P53_4 R n0 ro rt a16 t7 t8 t9 s1x3 QR) : P53_2 R n0 ro rt t3 t7 t8 t9 t10 s QR :=
  wpc_mp (lv := lv53) (ct := ct53) _ _ _ _ h (by kernel_rfl)
theorem p53_3 {R : RT} {n0 ro rt : Nat} {t3 : AV} {s : Sto} {QR : QT} (h :
 wInt .i64 .add t3 (I64 1) fun a19 =>
 QR a19 s) : P53_3 R n0 ro rt t3 s QR :=
  wpc_mp (lv := lv53) (ct := ct53) _ _ _ _ h (by kernel_rfl)
theorem p53_4 {R : RT} {n0 ro rt : Nat} {t3 t7 t8 t9 : AV} {s : Sto} {QR : QT} (h :
 wInt .i64 .add t9 (I64 1) fun a17 =>
 P53_1 R n0 ro rt t3 t7 t8 a17 s QR) : P53_4 R n0 ro rt t3 t7 t8 t9 s QR :=
  wpc_mp (lv := lv53) (ct := ct53) _ _ _ _ h (by kernel_rfl)
theorem e53 {R : RT} {t0 : AV} {u0 : AV} {Post : AV → Prop} (hcl : closeL [] 0 0 [t0] = some [u0]) (h : P53_0 R 0 0 0 u0 ⟨[],[]⟩ (QP Post)) : PureC (env R) 53 [t0] Post :=
  call_rd (fn := Tryz.f53) (body := b53) Tryz.func53 (by kernel_rfl) (by kernel_rfl) (by kernel_rfl) (Nat.le_of_ble_eq_true (by kernel_rfl)) hcl (mpK h (by kernel_rfl))
/-! 54: telpher/typeterm.validNodes -/
noncomputable def b54 : Code := Tryz.f54.body.getD .skip
def lv54 (f : Nat) : List Nat := bif Nat.beq f 1 then [1] else []
def ct54 (f : Nat) : Bool := false
def P54_0 (R : RT) (n0 ro rt : Nat) (t0 : AV) (s : Sto) (QR : QT) : Prop := Wp (env R) (LFE (env R) 54 n0 ro rt) 11 [.tmp 2] (sub b54 []) [] [(0,t0)] s QR
theorem p54_0 {R : RT} {n0 ro rt : Nat} {t0 : AV} {s : Sto} {QR : QT} (h :
 wBox s t0 fun a1 s1x0 =>
 wLd (env R) s1x0 (some 4) a1 fun a3 =>
 wCall (env R) (LFE (env R) 54 n0 ro rt) (.func (.func 78) [] []) [a3] s1x0 fun a4 s1x1 =>
 wGK a4 true s1x1 (fun K => wFad s1x1 a1 3 fun a6 => K a6 s1x1) fun a6x2 s1x3 =>
 wGK a4 true s1x3 (fun K => wLd (env R) s1x3 none a6x2 fun a7 => K a7 s1x3) fun a7x4 s1x5 =>
 wGK a4 true s1x5 (fun K => wCall (env R) (LFE (env R) 54 n0 ro rt) (.func (.func 79) [] []) [a7x4,(.func (.func 80) [] [])] s1x5 fun a8 s1x6 => K a8 s1x6) fun a8x7 s1x8 =>
 wGK a4 true s1x8 (fun K => wNot a8x7 fun a9 => K a9 s1x8) fun a9x9 s1x10 =>
 wPick a4 a9x9 (BB false) fun a10 =>
 QR a10 s1x10) : P54_0 R n0 ro rt t0 s QR :=
  wpc_mp (lv := lv54) (ct := ct54) _ _ _ _ h (by kernel_rfl)
theorem e54 {R : RT} {t0 : AV} {u0 : AV} {Post : AV → Prop} (hcl : closeL [] 0 0 [t0] = some [u0]) (h : P54_0 R 0 0 0 u0 ⟨[],[]⟩ (QP Post)) : PureC (env R) 54 [t0] Post :=
  call_rd (fn := Tryz.f54) (body := b54) Tryz.func54 (by kernel_rfl) (by kernel_rfl) (by kernel_rfl) (Nat.le_of_ble_eq_true (by kernel_rfl)) hcl (mpK h (by kernel_rfl))
/-! 78: telpher/typeterm.validNode -/
noncomputable def b78 : Code := Tryz.f78.body.getD .skip
def lv78 (f : Nat) : List Nat := bif Nat.blt f 8 then (
 bif Nat.blt f 4 then (
  bif Nat.blt f 2 then (
   bif Nat.beq f 1 then [1] else []) else (
   bif Nat.blt f 3 then (
    bif Nat.beq f 2 then [1,20] else []) else (
    bif Nat.beq f 3 then [1] else []))) else (
  bif Nat.blt f 5 then (
   bif Nat.beq f 4 then [1,22] else []) else (
   bif Nat.blt f 6 then (
    bif Nat.beq f 5 then [1,22,23] else []) else (
    bif Nat.beq f 6 then [1,22,23] else [])))) else (
 bif Nat.blt f 14 then (
  bif Nat.blt f 10 then (
   bif Nat.beq f 8 then [1,22,30] else []) else (
   bif Nat.blt f 12 then (
    bif Nat.beq f 10 then [1,22,52] else []) else (
    bif Nat.beq f 12 then [1,22,58] else []))) else (
  bif Nat.blt f 16 then (
   bif Nat.beq f 14 then [1,22,64] else []) else (
   bif Nat.blt f 17 then (
    bif Nat.beq f 16 then [1,80] else []) else (
    bif Nat.beq f 17 then [] else []))))
def ct78 (f : Nat) : Bool := false
def P78_0 (R : RT) (n0 ro rt : Nat) (t0 : AV) (s : Sto) (QR : QT) : Prop := Wp (env R) (LFE (env R) 78 n0 ro rt) 93 [.tmp 2] (sub b78 []) [] [(0,t0)] s QR
def P78_1 (R : RT) (n0 ro rt : Nat) (t1 : AV) (s : Sto) (QR : QT) : Prop := Wp (env R) (LFE (env R) 78 n0 ro rt) 93 [.tmp 2] (sub b78 [1,1]) [] [(1,t1)] s QR
def P78_2 (R : RT) (n0 ro rt : Nat) (t1 t22 t23 : AV) (s : Sto) (QR : QT) : Prop := Wp (env R) (LFE (env R) 78 n0 ro rt) 93 [.tmp 2] (sub b78 [1,1,0,1,0,1]) [.blk 0,.seq (sub b78 [1,1,1])] [(1,t1),(22,t22),(23,t23)] s QR
def P78_3 (R : RT) (n0 ro rt : Nat) (s : Sto) (QR : QT) : Prop := Wp (env R) (LFE (env R) 78 n0 ro rt) 93 [.tmp 2] (sub b78 [1,1,1]) [] [] s QR
theorem p78_0 {R : RT} {n0 ro rt : Nat} {t0 : AV} {s : Sto} {QR : QT} (h :
 wBox s t0 fun a1 s1x0 =>
 wFad s1x0 a1 0 fun a3 =>
 wLd (env R) s1x0 none a3 fun a4 =>
 wInt .i64 .neq a4 (I64 2) fun a5 =>
 wGK a5 true s1x0 (fun K => wFad s1x0 a1 1 fun a7 => K a7 s1x0) fun a7x1 s1x2 =>
 wGK a5 true s1x2 (fun K => wLd (env R) s1x2 none a7x1 fun a8 => K a8 s1x2) fun a8x3 s1x4 =>
 wGK a5 true s1x4 (fun K => wStr .neq a8x3 (SS []) fun a9 => K a9 s1x4) fun a9x5 s1x6 =>
 wPick a5 a9x5 (BB false) fun a10 =>
 wGK a10 false s1x6 (fun K => wFad s1x6 a1 0 fun a12 => K a12 s1x6) fun a12x7 s1x8 =>
 wGK a10 false s1x8 (fun K => wLd (env R) s1x8 none a12x7 fun a13 => K a13 s1x8) fun a13x9 s1x10 =>
 wGK a10 false s1x10 (fun K => wInt .i64 .neq a13x9 (I64 5) fun a14 => K a14 s1x10) fun a14x11 s1x12 =>
 wGK a10 false s1x12 (fun K => K a14x11 s1x12) fun a15 s1x13 =>
 wGK a15 true s1x13 (fun K => wFad s1x13 a1 2 fun a16 => K a16 s1x13) fun a16x14 s1x15 =>
 wGK a15 true s1x15 (fun K => wLd (env R) s1x15 none a16x14 fun a17 => K a17 s1x15) fun a17x16 s1x17 =>
 wGK a15 true s1x17 (fun K => wInt .i64 .neq a17x16 (I64 0) fun a18 => K a18 s1x17) fun a18x18 s1x19 =>
 wGK a10 false s1x19 (fun K => wPick a15 a18x18 (BB false) fun a19 => K a19 s1x19) fun a19x20 s1x21 =>
 wPick a10 (BB true) a19x20 fun a20 =>
 wCond a20 (
 QR (BB false) s1x21) (
 P78_1 R n0 ro rt a1 s1x21 QR)) : P78_0 R n0 ro rt t0 s QR :=
  wpc_mp (lv := lv78) (ct := ct78) _ _ _ _ h (by kernel_rfl)
theorem p78_1 {R : RT} {n0 ro rt : Nat} {t1 : AV} {s : Sto} {QR : QT} (h :
 wFad s t1 0 fun a21 =>
 wLd (env R) s none a21 fun a22 =>
 wInt .i64 .eql a22 (I64 0) fun a24 =>
 wCond a24 (
 P78_2 R n0 ro rt t1 a22 a24 s QR) (
 wInt .i64 .eql a22 (I64 1) fun a25 =>
 P78_2 R n0 ro rt t1 a22 a25 s QR)) : P78_1 R n0 ro rt t1 s QR :=
  wpc_mp (lv := lv78) (ct := ct78) _ _ _ _ h (by kernel_rfl)
theorem p78_2 {R : RT} {n0 ro rt : Nat} {t1 t22 t23 : AV} {s : Sto} {QR : QT} (h :
 wCond t23 (
 wFad s t1 3 fun a26 =>
 wLd (env R) s none a26 fun a27 =>
 wLen s a27 fun a28 =>
 wInt .i64 .eql a28 (I64 0) fun a29 =>
 QR a29 s) (
 wInt .i64 .eql t22 (I64 2) fun a31 =>
 wCond a31 (
 wFad s t1 1 fun a32 =>
 wLd (env R) s none a32 fun a33 =>
 wCall (env R) (LFE (env R) 78 n0 ro rt) (.func (.func 100) [] []) [a33] s fun a34 s1x0 =>
 wGK a34 true s1x0 (fun K => wLd (env R) s1x0 none (.gptr 6 0) fun a36 => K a36 s1x0) fun a36x1 s1x2 =>
 wGK a34 true s1x2 (fun K => wFad s1x2 t1 1 fun a37 => K a37 s1x2) fun a37x3 s1x4 =>
 wGK a34 true s1x4 (fun K => wLd (env R) s1x4 none a37x3 fun a38 => K a38 s1x4) fun a38x5 s1x6 =>
 wGK a34 true s1x6 (fun K => wCall (env R) (LFE (env R) 78 n0 ro rt) (.func (.func 84) [] []) [a36x1,a38x5] s1x6 fun a39 s1x7 => K a39 s1x7) fun a39x8 s1x9 =>
 wGK a34 true s1x9 (fun K => wNot a39x8 fun a40 => K a40 s1x9) fun a40x10 s1x11 =>
 wPick a34 a40x10 (BB false) fun a41 =>
 wGK a41 true s1x11 (fun K => wFad s1x11 t1 3 fun a43 => K a43 s1x11) fun a43x12 s1x13 =>
 wGK a41 true s1x13 (fun K => wLd (env R) s1x13 none a43x12 fun a44 => K a44 s1x13) fun a44x14 s1x15 =>
 wGK a41 true s1x15 (fun K => wLen s1x15 a44x14 fun a45 => K a45 s1x15) fun a45x16 s1x17 =>
 wGK a41 true s1x17 (fun K => wInt .i64 .leq a45x16 (I64 6) fun a46 => K a46 s1x17) fun a46x18 s1x19 =>
 wPick a41 a46x18 (BB false) fun a47 =>
 wGK a47 true s1x19 (fun K => wLd (env R) s1x19 (some 4) t1 fun a49 => K a49 s1x19) fun a49x20 s1x21 =>
 wGK a47 true s1x21 (fun K => wCall (env R) (LFE (env R) 78 n0 ro rt) (.func (.func 101) [] []) [a49x20] s1x21 fun a50 s1x22 => K a50 s1x22) fun a50x23 s1x24 =>
 wPick a47 a50x23 (BB false) fun a51 =>
 QR a51 s1x24) (
 wInt .i64 .eql t22 (I64 3) fun a53 =>
 wCond a53 (
 wFad s t1 3 fun a54 =>
 wLd (env R) s none a54 fun a55 =>
 wLen s a55 fun a56 =>
 wInt .i64 .leq a56 (I64 6) fun a57 =>
 QR a57 s) (
 wInt .i64 .eql t22 (I64 4) fun a59 =>
 wCond a59 (
 wFad s t1 3 fun a60 =>
 wLd (env R) s none a60 fun a61 =>
 wLen s a61 fun a62 =>
 wInt .i64 .geq a62 (I64 2) fun a63 =>
 QR a63 s) (
 wInt .i64 .eql t22 (I64 5) fun a65 =>
 wCond a65 (
 wFad s t1 3 fun a66 =>
 wLd (env R) s none a66 fun a67 =>
 wLen s a67 fun a68 =>
 wInt .i64 .eql a68 (I64 0) fun a69 =>
 wGK a69 true s (fun K => wFad s t1 2 fun a71 => K a71 s) fun a71x25 s1x26 =>
 wGK a69 true s1x26 (fun K => wLd (env R) s1x26 none a71x25 fun a72 => K a72 s1x26) fun a72x27 s1x28 =>
 wGK a69 true s1x28 (fun K => wInt .i64 .geq a72x27 (I64 0) fun a73 => K a73 s1x28) fun a73x29 s1x30 =>
 wPick a69 a73x29 (BB false) fun a74 =>
 wGK a74 true s1x30 (fun K => wFad s1x30 t1 2 fun a76 => K a76 s1x30) fun a76x31 s1x32 =>
 wGK a74 true s1x32 (fun K => wLd (env R) s1x32 none a76x31 fun a77 => K a77 s1x32) fun a77x33 s1x34 =>
 wGK a74 true s1x34 (fun K => wInt .i64 .leq a77x33 (I64 200) fun a78 => K a78 s1x34) fun a78x35 s1x36 =>
 wPick a74 a78x35 (BB false) fun a79 =>
 QR a79 s1x36) (
 wInt .i64 .eql t22 (I64 6) fun a81 =>
 wCond a81 (
 wFad s t1 3 fun a82 =>
 wLd (env R) s none a82 fun a83 =>
 wLen s a83 fun a84 =>
 wInt .i64 .eql a84 (I64 2) fun a85 =>
 wGK a85 true s (fun K => wFad s t1 3 fun a87 => K a87 s) fun a87x37 s1x38 =>
 wGK a85 true s1x38 (fun K => wLd (env R) s1x38 none a87x37 fun a88 => K a88 s1x38) fun a88x39 s1x40 =>
 wGK a85 true s1x40 (fun K => wIdx s1x40 4 a88x39 (I64 0) fun a89 => K a89 s1x40) fun a89x41 s1x42 =>
 wGK a85 true s1x42 (fun K => wLd (env R) s1x42 (some 4) a89x41 fun a90 => K a90 s1x42) fun a90x43 s1x44 =>
 wGK a85 true s1x44 (fun K => wCall (env R) (LFE (env R) 78 n0 ro rt) (.func (.func 102) [] []) [a90x43,(I64 0)] s1x44 fun a91 s1x45 => K a91 s1x45) fun a91x46 s1x47 =>
 wPick a85 a91x46 (BB false) fun a92 =>
 QR a92 s1x47) (
 P78_3 R n0 ro rt  s QR))))))) : P78_2 R n0 ro rt t1 t22 t23 s QR :=
  wpc_mp (lv := lv78) (ct := ct78) _ _ _ _ h (by kernel_rfl)
theorem p78_3 {R : RT} {n0 ro rt : Nat} {s : Sto} {QR : QT} (h :
 QR (BB false) s) : P78_3 R n0 ro rt  s QR :=
  wpc_mp (lv := lv78) (ct := ct78) _ _ _ _ h (by kernel_rfl)
theorem e78 {R : RT} {t0 : AV} {u0 : AV} {Post : AV → Prop} (hcl : closeL [] 0 0 [t0] = some [u0]) (h : P78_0 R 0 0 0 u0 ⟨[],[]⟩ (QP Post)) : PureC (env R) 78 [t0] Post :=
  call_rd (fn := Tryz.f78) (body := b78) Tryz.func78 (by kernel_rfl) (by kernel_rfl) (by kernel_rfl) (Nat.le_of_ble_eq_true (by kernel_rfl)) hcl (mpK h (by kernel_rfl))
/-! 79: slices.ContainsFunc[[]telpher/api.Type,telpher/api.Type] -/
noncomputable def b79 : Code := Tryz.f79.body.getD .skip
def lv79 (f : Nat) : List Nat := bif Nat.beq f 1 then [0,1] else []
def ct79 (f : Nat) : Bool := false
def P79_0 (R : RT) (n0 ro rt : Nat) (t0 t1 : AV) (s : Sto) (QR : QT) : Prop := Wp (env R) (LFE (env R) 79 n0 ro rt) 9 [.tmp 4] (sub b79 []) [] [(0,t0),(1,t1)] s QR
theorem p79_0 {R : RT} {n0 ro rt : Nat} {t0 t1 : AV} {s : Sto} {QR : QT} (h :
 wCall (env R) (LFE (env R) 79 n0 ro rt) (.func (.func 103) [] []) [t0,t1] s fun a7 s1x0 =>
 wInt .i64 .geq a7 (I64 0) fun a8 =>
 QR a8 s1x0) : P79_0 R n0 ro rt t0 t1 s QR :=
  wpc_mp (lv := lv79) (ct := ct79) _ _ _ _ h (by kernel_rfl)
theorem e79 {R : RT} {t0 t1 : AV} {Post : AV → Prop} (hn : noIdL [t0,t1] = true) (h : P79_0 R 0 0 0 t0 t1 ⟨[],[]⟩ (QP Post)) : PureC (env R) 79 [t0,t1] Post :=
  call_imp (fn := Tryz.f79) (body := b79) Tryz.func79 (by kernel_rfl) (by kernel_rfl) (by kernel_rfl) (Nat.le_of_ble_eq_true (by kernel_rfl)) hn (mpK h (by kernel_rfl))
/-! 80: telpher/typeterm.validNodes$1 -/
noncomputable def b80 : Code := Tryz.f80.body.getD .skip
def lv80 (f : Nat) : List Nat := bif Nat.beq f 1 then [1] else []
def ct80 (f : Nat) : Bool := false
def P80_0 (R : RT) (n0 ro rt : Nat) (t0 : AV) (s : Sto) (QR : QT) : Prop := Wp (env R) (LFE (env R) 80 n0 ro rt) 6 [.tmp 2] (sub b80 []) [] [(0,t0)] s QR
theorem p80_0 {R : RT} {n0 ro rt : Nat} {t0 : AV} {s : Sto} {QR : QT} (h :
 wBox s t0 fun a1 s1x0 =>
 wLd (env R) s1x0 (some 4) a1 fun a3 =>
 wCall (env R) (LFE (env R) 80 n0 ro rt) (.func (.func 54) [] []) [a3] s1x0 fun a4 s1x1 =>
 wNot a4 fun a5 =>
 QR a5 s1x1) : P80_0 R n0 ro rt t0 s QR :=
  wpc_mp (lv := lv80) (ct := ct80) _ _ _ _ h (by kernel_rfl)
theorem e80 {R : RT} {t0 : AV} {Post : AV → Prop} (hn : noIdL [t0] = true) (h : P80_0 R 0 0 0 t0 ⟨[],[]⟩ (QP Post)) : PureC (env R) 80 [t0] Post :=
  call_imp (fn := Tryz.f80) (body := b80) Tryz.func80 (by kernel_rfl) (by kernel_rfl) (by kernel_rfl) (Nat.le_of_ble_eq_true (by kernel_rfl)) hn (mpK h (by kernel_rfl))
/-! 100: telpher/sexpr.IsIdent -/
noncomputable def b100 : Code := Tryz.f100.body.getD .skip
def lv100 (f : Nat) : List Nat := bif Nat.beq f 1 then [0] else []
def ct100 (f : Nat) : Bool := false
def P100_0 (R : RT) (n0 ro rt : Nat) (t0 : AV) (s : Sto) (QR : QT) : Prop := Wp (env R) (LFE (env R) 100 n0 ro rt) 19 [.tmp 2] (sub b100 []) [] [(0,t0)] s QR
theorem p100_0 {R : RT} {n0 ro rt : Nat} {t0 : AV} {s : Sto} {QR : QT} (h :
 wStr .neq t0 (SS []) fun a4 =>
 wGK a4 true s (fun K => K t0 s) fun a6 s1x0 =>
 wGK a4 true s1x0 (fun K => wSlen a6 fun a7 => K a7 s1x0) fun a7x1 s1x2 =>
 wGK a4 true s1x2 (fun K => wInt .i64 .leq a7x1 (I64 24) fun a8 => K a8 s1x2) fun a8x3 s1x4 =>
 wPick a4 a8x3 (BB false) fun a9 =>
 wGK a9 true s1x4 (fun K => K t0 s1x4) fun a11 s1x5 =>
 wGK a9 true s1x5 (fun K => wSidx a11 (I64 0) fun a12 => K a12 s1x5) fun a12x6 s1x7 =>
 wGK a9 true s1x7 (fun K => wCall (env R) (LFE (env R) 100 n0 ro rt) (.func (.func 112) [] []) [a12x6] s1x7 fun a13 s1x8 => K a13 s1x8) fun a13x9 s1x10 =>
 wPick a9 a13x9 (BB false) fun a14 =>
 wGK a14 true s1x10 (fun K => K t0 s1x10) fun a16 s1x11 =>
 wGK a14 true s1x11 (fun K => wCall (env R) (LFE (env R) 100 n0 ro rt) (.func (.func 117) [] []) [a16,(.func (.func 118) [] [])] s1x11 fun a17 s1x12 => K a17 s1x12) fun a17x13 s1x14 =>
 wPick a14 a17x13 (BB false) fun a18 =>
 QR a18 s1x14) : P100_0 R n0 ro rt t0 s QR :=
  wpc_mp (lv := lv100) (ct := ct100) _ _ _ _ h (by kernel_rfl)
theorem e100 {R : RT} {t0 : AV} {u0 : AV} {Post : AV → Prop} (hcl : closeL [] 0 0 [t0] = some [u0]) (h : P100_0 R 0 0 0 u0 ⟨[],[]⟩ (QP Post)) : PureC (env R) 100 [t0] Post :=
  call_rd (fn := Tryz.f100) (body := b100) Tryz.func100 (by kernel_rfl) (by kernel_rfl) (by kernel_rfl) (Nat.le_of_ble_eq_true (by kernel_rfl)) hcl (mpK h (by kernel_rfl))
/-! 117: telpher/sexpr.every -/
noncomputable def b117 : Code := Tryz.f117.body.getD .skip
def lv117 (f : Nat) : List Nat := bif Nat.blt f 4 then (
 bif Nat.blt f 2 then (
  bif Nat.beq f 1 then [0,1] else []) else (
  bif Nat.blt f 3 then (
   bif Nat.beq f 2 then [0,1,5] else []) else (
   bif Nat.beq f 3 then [0,1,5] else []))) else (
 bif Nat.blt f 5 then (
  bif Nat.beq f 4 then [0,1,5] else []) else (
  bif Nat.blt f 6 then (
   bif Nat.beq f 5 then [0,1,5,17] else []) else (
   bif Nat.beq f 6 then [] else [])))
def ct117 (f : Nat) : Bool := false
def P117_0 (R : RT) (n0 ro rt : Nat) (t0 t1 : AV) (s : Sto) (QR : QT) : Prop := Wp (env R) (LFE (env R) 117 n0 ro rt) 18 [.tmp 4] (sub b117 []) [] [(0,t0),(1,t1)] s QR
def P117_1 (R : RT) (n0 ro rt : Nat) (t0 t1 t5 : AV) (s : Sto) (QR : QT) : Prop := Wp (env R) (LFE (env R) 117 n0 ro rt) 18 [.tmp 4] (.loop (sub b117 [1,0,1,0,0])) [.blk 0,.seq (sub b117 [1,1])] [(0,t0),(1,t1),(5,t5)] s QR
def P117_2 (R : RT) (n0 ro rt : Nat) (t0 t1 t5 : AV) (s : Sto) (QR : QT) : Prop := Wp (env R) (LFE (env R) 117 n0 ro rt) 18 [.tmp 4] (sub b117 [1,0,1,0,0,1]) [.loop (sub b117 [1,0,1,0,0]),.blk 0,.seq (sub b117 [1,1])] [(0,t0),(1,t1),(5,t5)] s QR
def P117_3 (R : RT) (n0 ro rt : Nat) (s : Sto) (QR : QT) : Prop := Wp (env R) (LFE (env R) 117 n0 ro rt) 18 [.tmp 4] (sub b117 [1,1]) [] [] s QR
def P117_4 (R : RT) (n0 ro rt : Nat) (t0 t1 t5 : AV) (s : Sto) (QR : QT) : Prop := Wp (env R) (LFE (env R) 117 n0 ro rt) 18 [.tmp 4] (sub b117 [1,0,1,0,0,1,1]) [.loop (sub b117 [1,0,1,0,0]),.blk 0,.seq (sub b117 [1,1])] [(0,t0),(1,t1),(5,t5)] s QR
theorem p117_0 {R : RT} {n0 ro rt : Nat} {t0 t1 : AV} {s : Sto} {QR : QT} (h :
 P117_1 R n0 ro rt t0 t1 (I64 0) s QR) : P117_0 R n0 ro rt t0 t1 s QR :=
  wpc_mp (lv := lv117) (ct := ct117) _ _ _ _ h (by kernel_rfl)
theorem p117_1 {R : RT} {n0 ro rt : Nat} {t0 t1 t5 : AV} {s : Sto} {QR : QT} (h :
 wSlen t0 fun a8 =>
 wInt .i64 .lss t5 a8 fun a9 =>
 wCond a9 (
 P117_2 R n0 ro rt t0 t1 t5 s QR) (
 P117_3 R n0 ro rt  s QR)) : P117_1 R n0 ro rt t0 t1 t5 s QR :=
  wpl_mp (lv := lv117) (ct := ct117) _ _ _ _ h (by kernel_rfl)
theorem p117_2 {R : RT} {n0 ro rt : Nat} {t0 t1 t5 : AV} {s : Sto} {QR : QT} (h :
 wSidx t0 t5 fun a15 =>
 wCall (env R) (LFE (env R) 117 n0 ro rt) t1 [a15] s fun a16 s1x0 =>
 wNot a16 fun a17 =>
 wCond a17 (
 QR (BB false) s1x0) (
 P117_4 R n0 ro rt t0 t1 t5 s1x0 QR)) : P117_2 R n0 ro rt t0 t1 t5 s QR :=
  wpc_mp (lv := lv117) (ct := ct117) _ _ _ _ h (by kernel_rfl)
theorem p117_3 {R : RT} {n0 ro rt : Nat} {s : Sto} {QR : QT} (h :
 QR (BB true) s) : P117_3 R n0 ro rt  s QR :=
  wpc_mp (lv := lv117) (ct := ct117) _ _ _ _ h (by kernel_rfl)
theorem p117_4 {R : RT} {n0 ro rt : Nat} {t0 t1 t5 : AV} {s : Sto} {QR : QT} (h :
 wInt .i64 .add t5 (I64 1) fun a11 =>
 P117_1 R n0 ro rt t0 t1 a11 s QR) : P117_4 R n0 ro rt t0 t1 t5 s QR :=
  wpc_mp (lv := lv117) (ct := ct117) _ _ _ _ h (by kernel_rfl)
theorem e117 {R : RT} {t0 t1 : AV} {u0 u1 : AV} {Post : AV → Prop} (hcl : closeL [] 0 0 [t0,t1] = some [u0,u1]) (h : P117_0 R 0 0 0 u0 u1 ⟨[],[]⟩ (QP Post)) : PureC (env R) 117 [t0,t1] Post :=
  call_rd (fn := Tryz.f117) (body := b117) Tryz.func117 (by kernel_rfl) (by kernel_rfl) (by kernel_rfl) (Nat.le_of_ble_eq_true (by kernel_rfl)) hcl (mpK h (by kernel_rfl))
/-! 118: telpher/sexpr.IsIdent$1 -/
noncomputable def b118 : Code := Tryz.f118.body.getD .skip
def lv118 (f : Nat) : List Nat := bif Nat.beq f 1 then [0] else []
def ct118 (f : Nat) : Bool := false
def P118_0 (R : RT) (n0 ro rt : Nat) (t0 : AV) (s : Sto) (QR : QT) : Prop := Wp (env R) (LFE (env R) 118 n0 ro rt) 9 [.tmp 2] (sub b118 []) [] [(0,t0)] s QR
theorem p118_0 {R : RT} {n0 ro rt : Nat} {t0 : AV} {s : Sto} {QR : QT} (h :
 wInt .u8 .neq t0 (.pv (.sc (.int .u8 45))) fun a4 =>
 wGK a4 true s (fun K => K t0 s) fun a6 s1x0 =>
 wGK a4 true s1x0 (fun K => wCall (env R) (LFE (env R) 118 n0 ro rt) (.func (.func 92) [] []) [a6] s1x0 fun a7 s1x1 => K a7 s1x1) fun a7x2 s1x3 =>
 wPick a4 a7x2 (BB false) fun a8 =>
 QR a8 s1x3) : P118_0 R n0 ro rt t0 s QR :=
  wpc_mp (lv := lv118) (ct := ct118) _ _ _ _ h (by kernel_rfl)
theorem e118 {R : RT} {t0 : AV} {Post : AV → Prop} (hn : noIdL [t0] = true) (h : P118_0 R 0 0 0 t0 ⟨[],[]⟩ (QP Post)) : PureC (env R) 118 [t0] Post :=
  call_imp (fn := Tryz.f118) (body := b118) Tryz.func118 (by kernel_rfl) (by kernel_rfl) (by kernel_rfl) (Nat.le_of_ble_eq_true (by kernel_rfl)) hn (mpK h (by kernel_rfl))
/-! 92: telpher/sexpr.isWordByte -/
noncomputable def b92 : Code := Tryz.f92.body.getD .skip
def lv92 (f : Nat) : List Nat := bif Nat.beq f 1 then [0] else []
def ct92 (f : Nat) : Bool := false
def P92_0 (R : RT) (n0 ro rt : Nat) (t0 : AV) (s : Sto) (QR : QT) : Prop := Wp (env R) (LFE (env R) 92 n0 ro rt) 17 [.tmp 2] (sub b92 []) [] [(0,t0)] s QR
theorem p92_0 {R : RT} {n0 ro rt : Nat} {t0 : AV} {s : Sto} {QR : QT} (h :
 wCall (env R) (LFE (env R) 92 n0 ro rt) (.func (.func 112) [] []) [t0] s fun a4 s1x0 =>
 wGK a4 false s1x0 (fun K => K t0 s1x0) fun a6 s1x1 =>
 wGK a4 false s1x1 (fun K => wCall (env R) (LFE (env R) 92 n0 ro rt) (.func (.func 113) [] []) [a6] s1x1 fun a7 s1x2 => K a7 s1x2) fun a7x3 s1x4 =>
 wPick a4 (BB true) a7x3 fun a8 =>
 wGK a8 false s1x4 (fun K => K t0 s1x4) fun a10 s1x5 =>
 wGK a8 false s1x5 (fun K => wInt .u8 .eql a10 (.pv (.sc (.int .u8 95))) fun a11 => K a11 s1x5) fun a11x6 s1x7 =>
 wPick a8 (BB true) a11x6 fun a12 =>
 wGK a12 false s1x7 (fun K => K t0 s1x7) fun a14 s1x8 =>
 wGK a12 false s1x8 (fun K => wInt .u8 .eql a14 (.pv (.sc (.int .u8 45))) fun a15 => K a15 s1x8) fun a15x9 s1x10 =>
 wPick a12 (BB true) a15x9 fun a16 =>
 QR a16 s1x10) : P92_0 R n0 ro rt t0 s QR :=
  wpc_mp (lv := lv92) (ct := ct92) _ _ _ _ h (by kernel_rfl)
theorem e92 {R : RT} {t0 : AV} {u0 : AV} {Post : AV → Prop} (hcl : closeL [] 0 0 [t0] = some [u0]) (h : P92_0 R 0 0 0 u0 ⟨[],[]⟩ (QP Post)) : PureC (env R) 92 [t0] Post :=
  call_rd (fn := Tryz.f92) (body := b92) Tryz.func92 (by kernel_rfl) (by kernel_rfl) (by kernel_rfl) (Nat.le_of_ble_eq_true (by kernel_rfl)) hcl (mpK h (by kernel_rfl))
/-! 112: telpher/sexpr.isLetter -/
noncomputable def b112 : Code := Tryz.f112.body.getD .skip
def lv112 (f : Nat) : List Nat := bif Nat.beq f 1 then [0] else []
def ct112 (f : Nat) : Bool := false
def P112_0 (R : RT) (n0 ro rt : Nat) (t0 : AV) (s : Sto) (QR : QT) : Prop := Wp (env R) (LFE (env R) 112 n0 ro rt) 17 [.tmp 2] (sub b112 []) [] [(0,t0)] s QR
theorem p112_0 {R : RT} {n0 ro rt : Nat} {t0 : AV} {s : Sto} {QR : QT} (h :
 wInt .u8 .geq t0 (.pv (.sc (.int .u8 97))) fun a4 =>
 wGK a4 true s (fun K => K t0 s) fun a6 s1x0 =>
 wGK a4 true s1x0 (fun K => wInt .u8 .leq a6 (.pv (.sc (.int .u8 122))) fun a7 => K a7 s1x0) fun a7x1 s1x2 =>
 wPick a4 a7x1 (BB false) fun a8 =>
 wGK a8 false s1x2 (fun K => K t0 s1x2) fun a10 s1x3 =>
 wGK a8 false s1x3 (fun K => wInt .u8 .geq a10 (.pv (.sc (.int .u8 65))) fun a11 => K a11 s1x3) fun a11x4 s1x5 =>
 wGK a8 false s1x5 (fun K => K a11x4 s1x5) fun a12 s1x6 =>
 wGK a12 true s1x6 (fun K => K t0 s1x6) fun a13 s1x7 =>
 wGK a12 true s1x7 (fun K => wInt .u8 .leq a13 (.pv (.sc (.int .u8 90))) fun a14 => K a14 s1x7) fun a14x8 s1x9 =>
 wGK a8 false s1x9 (fun K => wPick a12 a14x8 (BB false) fun a15 => K a15 s1x9) fun a15x10 s1x11 =>
 wPick a8 (BB true) a15x10 fun a16 =>
 QR a16 s1x11) : P112_0 R n0 ro rt t0 s QR :=
  wpc_mp (lv := lv112) (ct := ct112) _ _ _ _ h (by kernel_rfl)
theorem e112 {R : RT} {t0 : AV} {u0 : AV} {Post : AV → Prop} (hcl : closeL [] 0 0 [t0] = some [u0]) (h : P112_0 R 0 0 0 u0 ⟨[],[]⟩ (QP Post)) : PureC (env R) 112 [t0] Post :=
  call_rd (fn := Tryz.f112) (body := b112) Tryz.func112 (by kernel_rfl) (by kernel_rfl) (by kernel_rfl) (Nat.le_of_ble_eq_true (by kernel_rfl)) hcl (mpK h (by kernel_rfl))
/-! 113: telpher/sexpr.isDigit -/
noncomputable def b113 : Code := Tryz.f113.body.getD .skip
def lv113 (f : Nat) : List Nat := bif Nat.beq f 1 then [0] else []
def ct113 (f : Nat) : Bool := false
def P113_0 (R : RT) (n0 ro rt : Nat) (t0 : AV) (s : Sto) (QR : QT) : Prop := Wp (env R) (LFE (env R) 113 n0 ro rt) 9 [.tmp 2] (sub b113 []) [] [(0,t0)] s QR
theorem p113_0 {R : RT} {n0 ro rt : Nat} {t0 : AV} {s : Sto} {QR : QT} (h :
 wInt .u8 .geq t0 (.pv (.sc (.int .u8 48))) fun a4 =>
 wGK a4 true s (fun K => K t0 s) fun a6 s1x0 =>
 wGK a4 true s1x0 (fun K => wInt .u8 .leq a6 (.pv (.sc (.int .u8 57))) fun a7 => K a7 s1x0) fun a7x1 s1x2 =>
 wPick a4 a7x1 (BB false) fun a8 =>
 QR a8 s1x2) : P113_0 R n0 ro rt t0 s QR :=
  wpc_mp (lv := lv113) (ct := ct113) _ _ _ _ h (by kernel_rfl)
theorem e113 {R : RT} {t0 : AV} {u0 : AV} {Post : AV → Prop} (hcl : closeL [] 0 0 [t0] = some [u0]) (h : P113_0 R 0 0 0 u0 ⟨[],[]⟩ (QP Post)) : PureC (env R) 113 [t0] Post :=
  call_rd (fn := Tryz.f113) (body := b113) Tryz.func113 (by kernel_rfl) (by kernel_rfl) (by kernel_rfl) (Nat.le_of_ble_eq_true (by kernel_rfl)) hcl (mpK h (by kernel_rfl))
/-! 84: slices.Contains[[]string,string] -/
noncomputable def b84 : Code := Tryz.f84.body.getD .skip
def lv84 (f : Nat) : List Nat := bif Nat.beq f 1 then [0,1] else []
def ct84 (f : Nat) : Bool := false
def P84_0 (R : RT) (n0 ro rt : Nat) (t0 t1 : AV) (s : Sto) (QR : QT) : Prop := Wp (env R) (LFE (env R) 84 n0 ro rt) 9 [.tmp 4] (sub b84 []) [] [(0,t0),(1,t1)] s QR
theorem p84_0 {R : RT} {n0 ro rt : Nat} {t0 t1 : AV} {s : Sto} {QR : QT} (h :
 wCall (env R) (LFE (env R) 84 n0 ro rt) (.func (.func 108) [] []) [t0,t1] s fun a7 s1x0 =>
 wInt .i64 .geq a7 (I64 0) fun a8 =>
 QR a8 s1x0) : P84_0 R n0 ro rt t0 t1 s QR :=
  wpc_mp (lv := lv84) (ct := ct84) _ _ _ _ h (by kernel_rfl)
theorem e84 {R : RT} {t0 t1 : AV} {u0 u1 : AV} {Post : AV → Prop} (hcl : closeL [] 0 0 [t0,t1] = some [u0,u1]) (h : P84_0 R 0 0 0 u0 u1 ⟨[],[]⟩ (QP Post)) : PureC (env R) 84 [t0,t1] Post :=
  call_rd (fn := Tryz.f84) (body := b84) Tryz.func84 (by kernel_rfl) (by kernel_rfl) (by kernel_rfl) (Nat.le_of_ble_eq_true (by kernel_rfl)) hcl (mpK h (by kernel_rfl))
/-! 108: slices.Index[[]string,string] -/
noncomputable def b108 : Code := Tryz.f108.body.getD .skip
def lv108 (f : Nat) : List Nat := bif Nat.blt f 4 then (
 bif Nat.blt f 2 then (
  bif Nat.beq f 1 then [0,1] else []) else (
  bif Nat.blt f 3 then (
   bif Nat.beq f 2 then [0,1,7,8] else []) else (
   bif Nat.beq f 3 then [0,1,7,8,9] else []))) else (
 bif Nat.blt f 6 then (
  bif Nat.blt f 5 then (
   bif Nat.beq f 4 then [0,1,5,7,8] else []) else (
   bif Nat.beq f 5 then [0,1,5,7,8,16] else [])) else (
  bif Nat.blt f 7 then (
   bif Nat.beq f 6 then [0,1,7,8] else []) else (
   bif Nat.beq f 7 then [] else [])))
def ct108 (f : Nat) : Bool := false
def P108_0 (R : RT) (n0 ro rt : Nat) (t0 t1 : AV) (s : Sto) (QR : QT) : Prop := Wp (env R) (LFE (env R) 108 n0 ro rt) 19 [.tmp 4] (sub b108 []) [] [(0,t0),(1,t1)] s QR
def P108_1 (R : RT) (n0 ro rt : Nat) (t0 t1 t7 t8 : AV) (s : Sto) (QR : QT) : Prop := Wp (env R) (LFE (env R) 108 n0 ro rt) 19 [.tmp 4] (.loop (sub b108 [1,0,1,0,0])) [.blk 0,.seq (sub b108 [1,1])] [(0,t0),(1,t1),(7,t7),(8,t8)] s QR
def P108_2 (R : RT) (n0 ro rt : Nat) (t0 t1 t7 t8 t9 : AV) (s : Sto) (QR : QT) : Prop := Wp (env R) (LFE (env R) 108 n0 ro rt) 19 [.tmp 4] (sub b108 [1,0,1,0,0,1,1]) [.loop (sub b108 [1,0,1,0,0]),.blk 0,.seq (sub b108 [1,1])] [(0,t0),(1,t1),(7,t7),(8,t8),(9,t9)] s QR
def P108_3 (R : RT) (n0 ro rt : Nat) (s : Sto) (QR : QT) : Prop := Wp (env R) (LFE (env R) 108 n0 ro rt) 19 [.tmp 4] (sub b108 [1,1]) [] [] s QR
def P108_4 (R : RT) (n0 ro rt : Nat) (t0 t1 t7 t8 : AV) (s : Sto) (QR : QT) : Prop := Wp (env R) (LFE (env R) 108 n0 ro rt) 19 [.tmp 4] (sub b108 [1,0,1,0,0,1,1,1]) [.loop (sub b108 [1,0,1,0,0]),.blk 0,.seq (sub b108 [1,1])] [(0,t0),(1,t1),(7,t7),(8,t8)] s QR
theorem p108_0 {R : RT} {n0 ro rt : Nat} {t0 t1 : AV} {s : Sto} {QR : QT} (h :
 wLen s t0 fun a7 =>
 P108_1 R n0 ro rt t0 t1 a7 (I64 0) s QR) : P108_0 R n0 ro rt t0 t1 s QR :=
  wpc_mp (lv := lv108) (ct := ct108) _ _ _ _ h (by kernel_rfl)
theorem p108_1 {R : RT} {n0 ro rt : Nat} {t0 t1 t7 t8 : AV} {s : Sto} {QR : QT} (h :
 wInt .i64 .lss t8 t7 fun a9 =>
 wCond a9 (
 P108_2 R n0 ro rt t0 t1 t7 t8 a9 s QR) (
 P108_3 R n0 ro rt  s QR)) : P108_1 R n0 ro rt t0 t1 t7 t8 s QR :=
  wpl_mp (lv := lv108) (ct := ct108) _ _ _ _ h (by kernel_rfl)
theorem p108_2 {R : RT} {n0 ro rt : Nat} {t0 t1 t7 t8 t9 : AV} {s : Sto} {QR : QT} (h :
 wIdx s 1 t0 t8 fun a14 =>
 wLd (env R) s none a14 fun a15 =>
 wStr .eql t1 a15 fun a16 =>
 wCond a16 (
 QR t8 s) (
 P108_4 R n0 ro rt t0 t1 t7 t8 s QR)) : P108_2 R n0 ro rt t0 t1 t7 t8 t9 s QR :=
  wpc_mp (lv := lv108) (ct := ct108) _ _ _ _ h (by kernel_rfl)
theorem p108_3 {R : RT} {n0 ro rt : Nat} {s : Sto} {QR : QT} (h :
 QR (I64 (-1)) s) : P108_3 R n0 ro rt  s QR :=
  wpc_mp (lv := lv108) (ct := ct108) _ _ _ _ h (by kernel_rfl)
theorem p108_4 {R : RT} {n0 ro rt : Nat} {t0 t1 t7 t8 : AV} {s : Sto} {QR : QT} (h :
 wInt .i64 .add t8 (I64 1) fun a18 =>
 P108_1 R n0 ro rt t0 t1 t7 a18 s QR) : P108_4 R n0 ro rt t0 t1 t7 t8 s QR :=
  wpc_mp (lv := lv108) (ct := ct108) _ _ _ _ h (by kernel_rfl)
theorem e108 {R : RT} {t0 t1 : AV} {u0 u1 : AV} {Post : AV → Prop} (hcl : closeL [] 0 0 [t0,t1] = some [u0,u1]) (h : P108_0 R 0 0 0 u0 u1 ⟨[],[]⟩ (QP Post)) : PureC (env R) 108 [t0,t1] Post :=
  call_rd (fn := Tryz.f108) (body := b108) Tryz.func108 (by kernel_rfl) (by kernel_rfl) (by kernel_rfl) (Nat.le_of_ble_eq_true (by kernel_rfl)) hcl (mpK h (by kernel_rfl))
/-! 101: telpher/typeterm.plainArgs -/
noncomputable def b101 : Code := Tryz.f101.body.getD .skip
def lv101 (f : Nat) : List Nat := bif Nat.beq f 1 then [1] else []
def ct101 (f : Nat) : Bool := false
def P101_0 (R : RT) (n0 ro rt : Nat) (t0 : AV) (s : Sto) (QR : QT) : Prop := Wp (env R) (LFE (env R) 101 n0 ro rt) 7 [.tmp 2] (sub b101 []) [] [(0,t0)] s QR
theorem p101_0 {R : RT} {n0 ro rt : Nat} {t0 : AV} {s : Sto} {QR : QT} (h :
 wBox s t0 fun a1 s1x0 =>
 wFad s1x0 a1 3 fun a3 =>
 wLd (env R) s1x0 none a3 fun a4 =>
 wCall (env R) (LFE (env R) 101 n0 ro rt) (.func (.func 79) [] []) [a4,(.func (.func 119) [] [])] s1x0 fun a5 s1x1 =>
 wNot a5 fun a6 =>
 QR a6 s1x1) : P101_0 R n0 ro rt t0 s QR :=
  wpc_mp (lv := lv101) (ct := ct101) _ _ _ _ h (by kernel_rfl)
theorem e101 {R : RT} {t0 : AV} {u0 : AV} {Post : AV → Prop} (hcl : closeL [] 0 0 [t0] = some [u0]) (h : P101_0 R 0 0 0 u0 ⟨[],[]⟩ (QP Post)) : PureC (env R) 101 [t0] Post :=
  call_rd (fn := Tryz.f101) (body := b101) Tryz.func101 (by kernel_rfl) (by kernel_rfl) (by kernel_rfl) (Nat.le_of_ble_eq_true (by kernel_rfl)) hcl (mpK h (by kernel_rfl))
/-! 119: telpher/typeterm.plainArgs$1 -/
noncomputable def b119 : Code := Tryz.f119.body.getD .skip
def lv119 (f : Nat) : List Nat := bif Nat.beq f 1 then [1] else []
def ct119 (f : Nat) : Bool := false
def P119_0 (R : RT) (n0 ro rt : Nat) (t0 : AV) (s : Sto) (QR : QT) : Prop := Wp (env R) (LFE (env R) 119 n0 ro rt) 6 [.tmp 2] (sub b119 []) [] [(0,t0)] s QR
theorem p119_0 {R : RT} {n0 ro rt : Nat} {t0 : AV} {s : Sto} {QR : QT} (h :
 wBox s t0 fun a1 s1x0 =>
 wLd (env R) s1x0 (some 4) a1 fun a3 =>
 wCall (env R) (LFE (env R) 119 n0 ro rt) (.func (.func 120) [] []) [a3] s1x0 fun a4 s1x1 =>
 wNot a4 fun a5 =>
 QR a5 s1x1) : P119_0 R n0 ro rt t0 s QR :=
  wpc_mp (lv := lv119) (ct := ct119) _ _ _ _ h (by kernel_rfl)
theorem e119 {R : RT} {t0 : AV} {Post : AV → Prop} (hn : noIdL [t0] = true) (h : P119_0 R 0 0 0 t0 ⟨[],[]⟩ (QP Post)) : PureC (env R) 119 [t0] Post :=
  call_imp (fn := Tryz.f119) (body := b119) Tryz.func119 (by kernel_rfl) (by kernel_rfl) (by kernel_rfl) (Nat.le_of_ble_eq_true (by kernel_rfl)) hn (mpK h (by kernel_rfl))
/-! 120: telpher/typeterm.IsPlain -/
noncomputable def b120 : Code := Tryz.f120.body.getD .skip
def lv120 (f : Nat) : List Nat := bif Nat.beq f 1 then [1] else []
def ct120 (f : Nat) : Bool := false
def P120_0 (R : RT) (n0 ro rt : Nat) (t0 : AV) (s : Sto) (QR : QT) : Prop := Wp (env R) (LFE (env R) 120 n0 ro rt) 19 [.tmp 2] (sub b120 []) [] [(0,t0)] s QR
theorem p120_0 {R : RT} {n0 ro rt : Nat} {t0 : AV} {s : Sto} {QR : QT} (h :
 wBox s t0 fun a1 s1x0 =>
 wFad s1x0 a1 0 fun a3 =>
 wLd (env R) s1x0 none a3 fun a4 =>
 wInt .i64 .eql a4 (I64 5) fun a5 =>
 wGK a5 false s1x0 (fun K => wLd (env R) s1x0 (some 4) a1 fun a7 => K a7 s1x0) fun a7x1 s1x2 =>
 wGK a5 false s1x2 (fun K => wCall (env R) (LFE (env R) 120 n0 ro rt) (.func (.func 102) [] []) [a7x1,(I64 0)] s1x2 fun a8 s1x3 => K a8 s1x3) fun a8x4 s1x5 =>
 wPick a5 (BB true) a8x4 fun a9 =>
 wGK a9 false s1x5 (fun K => wFad s1x5 a1 0 fun a11 => K a11 s1x5) fun a11x6 s1x7 =>
 wGK a9 false s1x7 (fun K => wLd (env R) s1x7 none a11x6 fun a12 => K a12 s1x7) fun a12x8 s1x9 =>
 wGK a9 false s1x9 (fun K => wInt .i64 .eql a12x8 (I64 2) fun a13 => K a13 s1x9) fun a13x10 s1x11 =>
 wGK a9 false s1x11 (fun K => K a13x10 s1x11) fun a14 s1x12 =>
 wGK a14 true s1x12 (fun K => wLd (env R) s1x12 (some 4) a1 fun a15 => K a15 s1x12) fun a15x13 s1x14 =>
 wGK a14 true s1x14 (fun K => wCall (env R) (LFE (env R) 120 n0 ro rt) (.func (.func 101) [] []) [a15x13] s1x14 fun a16 s1x15 => K a16 s1x15) fun a16x16 s1x17 =>
 wGK a9 false s1x17 (fun K => wPick a14 a16x16 (BB false) fun a17 => K a17 s1x17) fun a17x18 s1x19 =>
 wPick a9 (BB true) a17x18 fun a18 =>
 QR a18 s1x19) : P120_0 R n0 ro rt t0 s QR :=
  wpc_mp (lv := lv120) (ct := ct120) _ _ _ _ h (by kernel_rfl)
theorem e120 {R : RT} {t0 : AV} {u0 : AV} {Post : AV → Prop} (hcl : closeL [] 0 0 [t0] = some [u0]) (h : P120_0 R 0 0 0 u0 ⟨[],[]⟩ (QP Post)) : PureC (env R) 120 [t0] Post :=
  call_rd (fn := Tryz.f120) (body := b120) Tryz.func120 (by kernel_rfl) (by kernel_rfl) (by kernel_rfl) (Nat.le_of_ble_eq_true (by kernel_rfl)) hcl (mpK h (by kernel_rfl))
/-! 102: telpher/typeterm.closed -/
noncomputable def b102 : Code := Tryz.f102.body.getD .skip
def lv102 (f : Nat) : List Nat := bif Nat.blt f 5 then (
 bif Nat.blt f 3 then (
  bif Nat.blt f 2 then (
   bif Nat.beq f 1 then [1,2] else []) else (
   bif Nat.beq f 2 then [1,2,15] else [])) else (
  bif Nat.blt f 4 then (
   bif Nat.beq f 3 then [1,2] else []) else (
   bif Nat.beq f 4 then [1,2,17,18,19] else []))) else (
 bif Nat.blt f 7 then (
  bif Nat.blt f 6 then (
   bif Nat.beq f 5 then [1,2,17,18,19,20] else []) else (
   bif Nat.beq f 6 then [1,2,5,6,17,18,19] else [])) else (
  bif Nat.blt f 8 then (
   bif Nat.beq f 7 then [1,2,17,18,19,31] else []) else (
   bif Nat.blt f 9 then (
    bif Nat.beq f 8 then [1,2,17,18,19] else []) else (
    bif Nat.beq f 9 then [] else []))))
def ct102 (f : Nat) : Bool := false
def P102_0 (R : RT) (n0 ro rt : Nat) (t0 t1 : AV) (s : Sto) (QR : QT) : Prop := Wp (env R) (LFE (env R) 102 n0 ro rt) 33 [.tmp 4] (sub b102 []) [] [(0,t0),(1,t1)] s QR
def P102_1 (R : RT) (n0 ro rt : Nat) (t1 t2 : AV) (s : Sto) (QR : QT) : Prop := Wp (env R) (LFE (env R) 102 n0 ro rt) 33 [.tmp 4] (sub b102 [1,1]) [] [(1,t1),(2,t2)] s QR
def P102_2 (R : RT) (n0 ro rt : Nat) (t1 t2 t17 t18 t19 : AV) (s : Sto) (QR : QT) : Prop := Wp (env R) (LFE (env R) 102 n0 ro rt) 33 [.tmp 4] (.loop (sub b102 [1,1,0,1,0,0])) [.blk 0,.seq (sub b102 [1,1,1])] [(1,t1),(2,t2),(17,t17),(18,t18),(19,t19)] s QR
def P102_3 (R : RT) (n0 ro rt : Nat) (t1 t2 t17 t18 t19 t20 : AV) (s : Sto) (QR : QT) : Prop := Wp (env R) (LFE (env R) 102 n0 ro rt) 33 [.tmp 4] (sub b102 [1,1,0,1,0,0,1,1]) [.loop (sub b102 [1,1,0,1,0,0]),.blk 0,.seq (sub b102 [1,1,1])] [(1,t1),(2,t2),(17,t17),(18,t18),(19,t19),(20,t20)] s QR
def P102_4 (R : RT) (n0 ro rt : Nat) (s : Sto) (QR : QT) : Prop := Wp (env R) (LFE (env R) 102 n0 ro rt) 33 [.tmp 4] (sub b102 [1,1,1]) [] [] s QR
def P102_5 (R : RT) (n0 ro rt : Nat) (t1 t2 t17 t18 t19 : AV) (s : Sto) (QR : QT) : Prop := Wp (env R) (LFE (env R) 102 n0 ro rt) 33 [.tmp 4] (sub b102 [1,1,0,1,0,0,1,1,1]) [.loop (sub b102 [1,1,0,1,0,0]),.blk 0,.seq (sub b102 [1,1,1])] [(1,t1),(2,t2),(17,t17),(18,t18),(19,t19)] s QR
theorem p102_0 {R : RT} {n0 ro rt : Nat} {t0 t1 : AV} {s : Sto} {QR : QT} (h :
 wBox s t0 fun a2 s1x0 =>
 wFad s1x0 a2 0 fun a7 =>
 wLd (env R) s1x0 none a7 fun a8 =>
 wInt .i64 .eql a8 (I64 5) fun a9 =>
 wGK a9 true s1x0 (fun K => wFad s1x0 a2 2 fun a11 => K a11 s1x0) fun a11x1 s1x2 =>
 wGK a9 true s1x2 (fun K => wLd (env R) s1x2 none a11x1 fun a12 => K a12 s1x2) fun a12x3 s1x4 =>
 wGK a9 true s1x4 (fun K => K t1 s1x4) fun a13 s1x5 =>
 wGK a9 true s1x5 (fun K => wInt .i64 .geq a12x3 a13 fun a14 => K a14 s1x5) fun a14x6 s1x7 =>
 wPick a9 a14x6 (BB false) fun a15 =>
 wCond a15 (
 QR (BB false) s1x7) (
 P102_1 R n0 ro rt t1 a2 s1x7 QR)) : P102_0 R n0 ro rt t0 t1 s QR :=
  wpc_mp (lv := lv102) (ct := ct102) _ _ _ _ h (by kernel_rfl)
theorem p102_1 {R : RT} {n0 ro rt : Nat} {t1 t2 : AV} {s : Sto} {QR : QT} (h :
 wFad s t2 3 fun a16 =>
 wLd (env R) s none a16 fun a17 =>
 wLen s a17 fun a18 =>
 P102_2 R n0 ro rt t1 t2 a17 a18 (I64 0) s QR) : P102_1 R n0 ro rt t1 t2 s QR :=
  wpc_mp (lv := lv102) (ct := ct102) _ _ _ _ h (by kernel_rfl)
theorem p102_2 {R : RT} {n0 ro rt : Nat} {t1 t2 t17 t18 t19 : AV} {s : Sto} {QR : QT} (h :
 wInt .i64 .lss t19 t18 fun a20 =>
 wCond a20 (
 P102_3 R n0 ro rt t1 t2 t17 t18 t19 a20 s QR) (
 P102_4 R n0 ro rt  s QR)) : P102_2 R n0 ro rt t1 t2 t17 t18 t19 s QR :=
  wpl_mp (lv := lv102) (ct := ct102) _ _ _ _ h (by kernel_rfl)
theorem p102_3 {R : RT} {n0 ro rt : Nat} {t1 t2 t17 t18 t19 t20 : AV} {s : Sto} {QR : QT} (h :
 wIdx s 4 t17 t19 fun a22 =>
 wLd (env R) s (some 4) a22 fun a23 =>
 wNew s [(I64 0),(SS []),(I64 0),(.capped [])] fun a6 s1x0 =>
 wSt (LFE (env R) 102 n0 ro rt) s1x0 4 a6 a23 fun s1x1 =>
 wLd (env R) s1x1 (some 4) a6 fun a24 =>
 wLd (env R) s1x1 (some 4) t2 fun a26 =>
 wCall (env R) (LFE (env R) 102 n0 ro rt) (.func (.func 121) [] []) [a26,t19] s1x1 fun a28 s1x2 =>
 wInt .i64 .add t1 a28 fun a29 =>
 wCall (env R) (LFE (env R) 102 n0 ro rt) (.func (.func 102) [] []) [a24,a29] s1x2 fun a30 s1x3 =>
 wNot a30 fun a31 =>
(wLd (env R) s1x2 (some 4) a6 fun v => eqA v a24 = true) ∧
 wCond a31 (
 QR (BB false) s1x3) (
 P102_5 R n0 ro rt t1 t2 t17 t18 t19 s1x3 QR)) : P102_3 R n0 ro rt t1 t2 t17 t18 t19 t20 s QR :=
  wpc_mp (lv := lv102) (ct := ct102) _ _ _ _ h (by kernel_rfl)
theorem p102_4 {R : RT} {n0 ro rt : Nat} {s : Sto} {QR : QT} (h :
 QR (BB true) s) : P102_4 R n0 ro rt  s QR :=
  wpc_mp (lv := lv102) (ct := ct102) _ _ _ _ h (by kernel_rfl)
theorem p102_5 {R : RT} {n0 ro rt : Nat} {t1 t2 t17 t18 t19 : AV} {s : Sto} {QR : QT} (h :
 wInt .i64 .add t19 (I64 1) fun a32 =>
 P102_2 R n0 ro rt t1 t2 t17 t18 a32 s QR) : P102_5 R n0 ro rt t1 t2 t17 t18 t19 s QR :=
  wpc_mp (lv := lv102) (ct := ct102) _ _ _ _ h (by kernel_rfl)
theorem e102 {R : RT} {t0 t1 : AV} {u0 u1 : AV} {Post : AV → Prop} (hcl : closeL [] 0 0 [t0,t1] = some [u0,u1]) (h : P102_0 R 0 0 0 u0 u1 ⟨[],[]⟩ (QP Post)) : PureC (env R) 102 [t0,t1] Post :=
  call_rd (fn := Tryz.f102) (body := b102) Tryz.func102 (by kernel_rfl) (by kernel_rfl) (by kernel_rfl) (Nat.le_of_ble_eq_true (by kernel_rfl)) hcl (mpK h (by kernel_rfl))
/-! 121: telpher/typeterm.binders -/
noncomputable def b121 : Code := Tryz.f121.body.getD .skip
def lv121 (f : Nat) : List Nat := bif Nat.blt f 2 then (
 bif Nat.beq f 1 then [1,2] else []) else (
 bif Nat.blt f 3 then (
  bif Nat.beq f 2 then [11] else []) else (
  bif Nat.beq f 3 then [] else []))
def ct121 (f : Nat) : Bool := false
def P121_0 (R : RT) (n0 ro rt : Nat) (t0 t1 : AV) (s : Sto) (QR : QT) : Prop := Wp (env R) (LFE (env R) 121 n0 ro rt) 12 [.tmp 4] (sub b121 []) [] [(0,t0),(1,t1)] s QR
def P121_1 (R : RT) (n0 ro rt : Nat) (s : Sto) (QR : QT) : Prop := Wp (env R) (LFE (env R) 121 n0 ro rt) 12 [.tmp 4] (sub b121 [1,1]) [] [] s QR
theorem p121_0 {R : RT} {n0 ro rt : Nat} {t0 t1 : AV} {s : Sto} {QR : QT} (h :
 wBox s t0 fun a2 s1x0 =>
 wFad s1x0 a2 0 fun a5 =>
 wLd (env R) s1x0 none a5 fun a6 =>
 wInt .i64 .eql a6 (I64 6) fun a7 =>
 wGK a7 true s1x0 (fun K => K t1 s1x0) fun a9 s1x1 =>
 wGK a7 true s1x1 (fun K => wInt .i64 .eql a9 (I64 1) fun a10 => K a10 s1x1) fun a10x2 s1x3 =>
 wPick a7 a10x2 (BB false) fun a11 =>
 wCond a11 (
 QR (I64 1) s1x3) (
 P121_1 R n0 ro rt  s1x3 QR)) : P121_0 R n0 ro rt t0 t1 s QR :=
  wpc_mp (lv := lv121) (ct := ct121) _ _ _ _ h (by kernel_rfl)
theorem p121_1 {R : RT} {n0 ro rt : Nat} {s : Sto} {QR : QT} (h :
 QR (I64 0) s) : P121_1 R n0 ro rt  s QR :=
  wpc_mp (lv := lv121) (ct := ct121) _ _ _ _ h (by kernel_rfl)
theorem e121 {R : RT} {t0 t1 : AV} {u0 u1 : AV} {Post : AV → Prop} (hcl : closeL [] 0 0 [t0,t1] = some [u0,u1]) (h : P121_0 R 0 0 0 u0 u1 ⟨[],[]⟩ (QP Post)) : PureC (env R) 121 [t0,t1] Post :=
  call_rd (fn := Tryz.f121) (body := b121) Tryz.func121 (by kernel_rfl) (by kernel_rfl) (by kernel_rfl) (Nat.le_of_ble_eq_true (by kernel_rfl)) hcl (mpK h (by kernel_rfl))
/-! 103: slices.IndexFunc[[]telpher/api.Type,telpher/api.Type] -/
noncomputable def b103 : Code := Tryz.f103.body.getD .skip
def lv103 (f : Nat) : List Nat := bif Nat.blt f 4 then (
 bif Nat.blt f 2 then (
  bif Nat.beq f 1 then [0,1] else []) else (
  bif Nat.blt f 3 then (
   bif Nat.beq f 2 then [0,1,7,8] else []) else (
   bif Nat.beq f 3 then [0,1,7,8,9] else []))) else (
 bif Nat.blt f 6 then (
  bif Nat.blt f 5 then (
   bif Nat.beq f 4 then [0,1,5,7,8] else []) else (
   bif Nat.beq f 5 then [0,1,5,7,8,16] else [])) else (
  bif Nat.blt f 7 then (
   bif Nat.beq f 6 then [0,1,7,8] else []) else (
   bif Nat.beq f 7 then [] else [])))
def ct103 (f : Nat) : Bool := false
def P103_0 (R : RT) (n0 ro rt : Nat) (t0 t1 : AV) (s : Sto) (QR : QT) : Prop := Wp (env R) (LFE (env R) 103 n0 ro rt) 19 [.tmp 4] (sub b103 []) [] [(0,t0),(1,t1)] s QR
def P103_1 (R : RT) (n0 ro rt : Nat) (t0 t1 t7 t8 : AV) (s : Sto) (QR : QT) : Prop := Wp (env R) (LFE (env R) 103 n0 ro rt) 19 [.tmp 4] (.loop (sub b103 [1,0,1,0,0])) [.blk 0,.seq (sub b103 [1,1])] [(0,t0),(1,t1),(7,t7),(8,t8)] s QR
def P103_2 (R : RT) (n0 ro rt : Nat) (t0 t1 t7 t8 t9 : AV) (s : Sto) (QR : QT) : Prop := Wp (env R) (LFE (env R) 103 n0 ro rt) 19 [.tmp 4] (sub b103 [1,0,1,0,0,1,1]) [.loop (sub b103 [1,0,1,0,0]),.blk 0,.seq (sub b103 [1,1])] [(0,t0),(1,t1),(7,t7),(8,t8),(9,t9)] s QR
def P103_3 (R : RT) (n0 ro rt : Nat) (s : Sto) (QR : QT) : Prop := Wp (env R) (LFE (env R) 103 n0 ro rt) 19 [.tmp 4] (sub b103 [1,1]) [] [] s QR
def P103_4 (R : RT) (n0 ro rt : Nat) (t0 t1 t7 t8 : AV) (s : Sto) (QR : QT) : Prop := Wp (env R) (LFE (env R) 103 n0 ro rt) 19 [.tmp 4] (sub b103 [1,0,1,0,0,1,1,1]) [.loop (sub b103 [1,0,1,0,0]),.blk 0,.seq (sub b103 [1,1])] [(0,t0),(1,t1),(7,t7),(8,t8)] s QR
theorem p103_0 {R : RT} {n0 ro rt : Nat} {t0 t1 : AV} {s : Sto} {QR : QT} (h :
 wLen s t0 fun a7 =>
 P103_1 R n0 ro rt t0 t1 a7 (I64 0) s QR) : P103_0 R n0 ro rt t0 t1 s QR :=
  wpc_mp (lv := lv103) (ct := ct103) _ _ _ _ h (by kernel_rfl)
theorem p103_1 {R : RT} {n0 ro rt : Nat} {t0 t1 t7 t8 : AV} {s : Sto} {QR : QT} (h :
 wInt .i64 .lss t8 t7 fun a9 =>
 wCond a9 (
 P103_2 R n0 ro rt t0 t1 t7 t8 a9 s QR) (
 P103_3 R n0 ro rt  s QR)) : P103_1 R n0 ro rt t0 t1 t7 t8 s QR :=
  wpl_mp (lv := lv103) (ct := ct103) _ _ _ _ h (by kernel_rfl)
theorem p103_2 {R : RT} {n0 ro rt : Nat} {t0 t1 t7 t8 t9 : AV} {s : Sto} {QR : QT} (h :
 wIdx s 4 t0 t8 fun a14 =>
 wLd (env R) s (some 4) a14 fun a15 =>
 wCall (env R) (LFE (env R) 103 n0 ro rt) t1 [a15] s fun a16 s1x0 =>
 wCond a16 (
 QR t8 s1x0) (
 P103_4 R n0 ro rt t0 t1 t7 t8 s1x0 QR)) : P103_2 R n0 ro rt t0 t1 t7 t8 t9 s QR :=
  wpc_mp (lv := lv103) (ct := ct103) _ _ _ _ h (by kernel_rfl)
theorem p103_3 {R : RT} {n0 ro rt : Nat} {s : Sto} {QR : QT} (h :
 QR (I64 (-1)) s) : P103_3 R n0 ro rt  s QR :=
  wpc_mp (lv := lv103) (ct := ct103) _ _ _ _ h (by kernel_rfl)
theorem p103_4 {R : RT} {n0 ro rt : Nat} {t0 t1 t7 t8 : AV} {s : Sto} {QR : QT} (h :
 wInt .i64 .add t8 (I64 1) fun a18 =>
 P103_1 R n0 ro rt t0 t1 t7 a18 s QR) : P103_4 R n0 ro rt t0 t1 t7 t8 s QR :=
  wpc_mp (lv := lv103) (ct := ct103) _ _ _ _ h (by kernel_rfl)
theorem e103 {R : RT} {t0 t1 : AV} {Post : AV → Prop} (hn : noIdL [t0,t1] = true) (h : P103_0 R 0 0 0 t0 t1 ⟨[],[]⟩ (QP Post)) : PureC (env R) 103 [t0,t1] Post :=
  call_imp (fn := Tryz.f103) (body := b103) Tryz.func103 (by kernel_rfl) (by kernel_rfl) (by kernel_rfl) (Nat.le_of_ble_eq_true (by kernel_rfl)) hn (mpK h (by kernel_rfl))
/-! 14: telpher/telref1.TermValidate -/
noncomputable def b14 : Code := Tryz.f14.body.getD .skip
def lv14 (f : Nat) : List Nat := bif Nat.blt f 4 then (
 bif Nat.blt f 2 then (
  bif Nat.beq f 1 then [1] else []) else (
  bif Nat.beq f 2 then [1,3] else [])) else (
 bif Nat.blt f 5 then (
  bif Nat.beq f 4 then [12] else []) else (
  bif Nat.beq f 5 then [] else []))
def ct14 (f : Nat) : Bool := false
def P14_0 (R : RT) (n0 ro rt : Nat) (t0 : AV) (s : Sto) (QR : QT) : Prop := Wp (env R) (LFE (env R) 14 n0 ro rt) 16 [.tmp 2] (sub b14 []) [] [(0,t0)] s QR
def P14_1 (R : RT) (n0 ro rt : Nat) (s : Sto) (QR : QT) : Prop := Wp (env R) (LFE (env R) 14 n0 ro rt) 16 [.tmp 2] (sub b14 [1,1]) [] [] s QR
theorem p14_0 {R : RT} {n0 ro rt : Nat} {t0 : AV} {s : Sto} {QR : QT} (h :
 wBox s t0 fun a1 s1x0 =>
 wLd (env R) s1x0 (some 4) a1 fun a4 =>
 wCall (env R) (LFE (env R) 14 n0 ro rt) (.func (.func 40) [] []) [a4] s1x0 fun a5 s1x1 =>
 wInt .i64 .gtr a5 (I64 200) fun a6 =>
 wGK a6 false s1x1 (fun K => wLd (env R) s1x1 (some 4) a1 fun a8 => K a8 s1x1) fun a8x2 s1x3 =>
 wGK a6 false s1x3 (fun K => wCall (env R) (LFE (env R) 14 n0 ro rt) (.func (.func 41) [] []) [a8x2] s1x3 fun a9 s1x4 => K a9 s1x4) fun a9x5 s1x6 =>
 wGK a6 false s1x6 (fun K => wInt .i64 .gtr a9x5 (I64 12) fun a10 => K a10 s1x6) fun a10x7 s1x8 =>
 wPick a6 (BB true) a10x7 fun a11 =>
 wCond a11 (
 QR (I64 4) s1x8) (
 wLd (env R) s1x8 (some 4) a1 fun a13 =>
 wCall (env R) (LFE (env R) 14 n0 ro rt) (.func (.func 42) [] []) [a13] s1x8 fun a14 s1x9 =>
 wNot a14 fun a15 =>
 wCond a15 (
 QR (I64 2) s1x9) (
 P14_1 R n0 ro rt  s1x9 QR))) : P14_0 R n0 ro rt t0 s QR :=
  wpc_mp (lv := lv14) (ct := ct14) _ _ _ _ h (by kernel_rfl)
theorem p14_1 {R : RT} {n0 ro rt : Nat} {s : Sto} {QR : QT} (h :
 QR (I64 0) s) : P14_1 R n0 ro rt  s QR :=
  wpc_mp (lv := lv14) (ct := ct14) _ _ _ _ h (by kernel_rfl)
theorem e14 {R : RT} {t0 : AV} {u0 : AV} {Post : AV → Prop} (hcl : closeL [] 0 0 [t0] = some [u0]) (h : P14_0 R 0 0 0 u0 ⟨[],[]⟩ (QP Post)) : PureC (env R) 14 [t0] Post :=
  call_rd (fn := Tryz.f14) (body := b14) Tryz.func14 (by kernel_rfl) (by kernel_rfl) (by kernel_rfl) (Nat.le_of_ble_eq_true (by kernel_rfl)) hcl (mpK h (by kernel_rfl))
/-! 40: telpher/telref1.TermSize -/
noncomputable def b40 : Code := Tryz.f40.body.getD .skip
def lv40 (f : Nat) : List Nat := bif Nat.blt f 4 then (
 bif Nat.blt f 2 then (
  bif Nat.beq f 1 then [1] else []) else (
  bif Nat.blt f 3 then (
   bif Nat.beq f 2 then [1,3] else []) else (
   bif Nat.beq f 3 then [1,3,4] else []))) else (
 bif Nat.blt f 5 then (
  bif Nat.beq f 4 then [1,3,4] else []) else (
  bif Nat.blt f 6 then (
   bif Nat.beq f 5 then [1,3,4] else []) else (
   bif Nat.beq f 6 then [3] else [])))
def ct40 (f : Nat) : Bool := false
def P40_0 (R : RT) (n0 ro rt : Nat) (t0 : AV) (s : Sto) (QR : QT) : Prop := Wp (env R) (LFE (env R) 40 n0 ro rt) 21 [.tmp 2] (sub b40 []) [] [(0,t0)] s QR
def P40_1 (R : RT) (n0 ro rt : Nat) (t1 t3 t4 : AV) (s : Sto) (QR : QT) : Prop := Wp (env R) (LFE (env R) 40 n0 ro rt) 21 [.tmp 2] (.loop (sub b40 [1,1,0,1,0,0])) [.blk 0,.seq (sub b40 [1,1,1])] [(1,t1),(3,t3),(4,t4)] s QR
def P40_2 (R : RT) (n0 ro rt : Nat) (t1 t3 t4 : AV) (s : Sto) (QR : QT) : Prop := Wp (env R) (LFE (env R) 40 n0 ro rt) 21 [.tmp 2] (sub b40 [1,1,0,1,0,0,1]) [.loop (sub b40 [1,1,0,1,0,0]),.blk 0,.seq (sub b40 [1,1,1])] [(1,t1),(3,t3),(4,t4)] s QR
def P40_3 (R : RT) (n0 ro rt : Nat) (t3 : AV) (s : Sto) (QR : QT) : Prop := Wp (env R) (LFE (env R) 40 n0 ro rt) 21 [.tmp 2] (sub b40 [1,1,1]) [] [(3,t3)] s QR
def P40_4 (R : RT) (n0 ro rt : Nat) (t1 t3 t4 : AV) (s : Sto) (QR : QT) : Prop := Wp (env R) (LFE (env R) 40 n0 ro rt) 21 [.tmp 2] (sub b40 [1,1,0,1,0,0,1,1]) [.loop (sub b40 [1,1,0,1,0,0]),.blk 0,.seq (sub b40 [1,1,1])] [(1,t1),(3,t3),(4,t4)] s QR
theorem p40_0 {R : RT} {n0 ro rt : Nat} {t0 : AV} {s : Sto} {QR : QT} (h :
 wBox s t0 fun a1 s1x0 =>
 P40_1 R n0 ro rt a1 (I64 1) (I64 0) s1x0 QR) : P40_0 R n0 ro rt t0 s QR :=
  wpc_mp (lv := lv40) (ct := ct40) _ _ _ _ h (by kernel_rfl)
theorem p40_1 {R : RT} {n0 ro rt : Nat} {t1 t3 t4 : AV} {s : Sto} {QR : QT} (h :
 wFad s t1 3 fun a6 =>
 wLd (env R) s none a6 fun a7 =>
 wLen s a7 fun a8 =>
 wInt .i64 .lss t4 a8 fun a9 =>
 wCond a9 (
 P40_2 R n0 ro rt t1 t3 t4 s QR) (
 P40_3 R n0 ro rt t3 s QR)) : P40_1 R n0 ro rt t1 t3 t4 s QR :=
  wpl_mp (lv := lv40) (ct := ct40) _ _ _ _ h (by kernel_rfl)
theorem p40_2 {R : RT} {n0 ro rt : Nat} {t1 t3 t4 : AV} {s : Sto} {QR : QT} (h :
 wFad s t1 3 fun a13 =>
 wLd (env R) s none a13 fun a14 =>
 wIdx s 4 a14 t4 fun a16 =>
 wLd (env R) s (some 4) a16 fun a17 =>
 wCall (env R) (LFE (env R) 40 n0 ro rt) (.func (.func 40) [] []) [a17] s fun a18 s1x0 =>
 wInt .i64 .add t3 a18 fun a19 =>
 P40_4 R n0 ro rt t1 a19 t4 s1x0 QR) : P40_2 R n0 ro rt t1 t3 t4 s QR :=
  wpc_mp (lv := lv40) (ct := ct40) _ _ _ _ h (by kernel_rfl)
theorem p40_3 {R : RT} {n0 ro rt : Nat} {t3 : AV} {s : Sto} {QR : QT} (h :
 QR t3 s) : P40_3 R n0 ro rt t3 s QR :=
  wpc_mp (lv := lv40) (ct := ct40) _ _ _ _ h (by kernel_rfl)
theorem p40_4 {R : RT} {n0 ro rt : Nat} {t1 t3 t4 : AV} {s : Sto} {QR : QT} (h :
 wInt .i64 .add t4 (I64 1) fun a11 =>
 P40_1 R n0 ro rt t1 t3 a11 s QR) : P40_4 R n0 ro rt t1 t3 t4 s QR :=
  wpc_mp (lv := lv40) (ct := ct40) _ _ _ _ h (by kernel_rfl)
theorem e40 {R : RT} {t0 : AV} {u0 : AV} {Post : AV → Prop} (hcl : closeL [] 0 0 [t0] = some [u0]) (h : P40_0 R 0 0 0 u0 ⟨[],[]⟩ (QP Post)) : PureC (env R) 40 [t0] Post :=
  call_rd (fn := Tryz.f40) (body := b40) Tryz.func40 (by kernel_rfl) (by kernel_rfl) (by kernel_rfl) (Nat.le_of_ble_eq_true (by kernel_rfl)) hcl (mpK h (by kernel_rfl))
/-! 41: telpher/telref1.TermDepth -/
noncomputable def b41 : Code := Tryz.f41.body.getD .skip
def lv41 (f : Nat) : List Nat := bif Nat.blt f 4 then (
 bif Nat.blt f 2 then (
  bif Nat.beq f 1 then [1] else []) else (
  bif Nat.blt f 3 then (
   bif Nat.beq f 2 then [1,3] else []) else (
   bif Nat.beq f 3 then [1,3,4] else []))) else (
 bif Nat.blt f 5 then (
  bif Nat.beq f 4 then [1,3,4] else []) else (
  bif Nat.blt f 6 then (
   bif Nat.beq f 5 then [1,3,4] else []) else (
   bif Nat.beq f 6 then [3] else [])))
def ct41 (f : Nat) : Bool := false
def P41_0 (R : RT) (n0 ro rt : Nat) (t0 : AV) (s : Sto) (QR : QT) : Prop := Wp (env R) (LFE (env R) 41 n0 ro rt) 22 [.tmp 2] (sub b41 []) [] [(0,t0)] s QR
def P41_1 (R : RT) (n0 ro rt : Nat) (t1 t3 t4 : AV) (s : Sto) (QR : QT) : Prop := Wp (env R) (LFE (env R) 41 n0 ro rt) 22 [.tmp 2] (.loop (sub b41 [1,1,0,1,0,0])) [.blk 0,.seq (sub b41 [1,1,1])] [(1,t1),(3,t3),(4,t4)] s QR
def P41_2 (R : RT) (n0 ro rt : Nat) (t1 t3 t4 : AV) (s : Sto) (QR : QT) : Prop := Wp (env R) (LFE (env R) 41 n0 ro rt) 22 [.tmp 2] (sub b41 [1,1,0,1,0,0,1]) [.loop (sub b41 [1,1,0,1,0,0]),.blk 0,.seq (sub b41 [1,1,1])] [(1,t1),(3,t3),(4,t4)] s QR
def P41_3 (R : RT) (n0 ro rt : Nat) (t3 : AV) (s : Sto) (QR : QT) : Prop := Wp (env R) (LFE (env R) 41 n0 ro rt) 22 [.tmp 2] (sub b41 [1,1,1]) [] [(3,t3)] s QR
def P41_4 (R : RT) (n0 ro rt : Nat) (t1 t3 t4 : AV) (s : Sto) (QR : QT) : Prop := Wp (env R) (LFE (env R) 41 n0 ro rt) 22 [.tmp 2] (sub b41 [1,1,0,1,0,0,1,1]) [.loop (sub b41 [1,1,0,1,0,0]),.blk 0,.seq (sub b41 [1,1,1])] [(1,t1),(3,t3),(4,t4)] s QR
theorem p41_0 {R : RT} {n0 ro rt : Nat} {t0 : AV} {s : Sto} {QR : QT} (h :
 wBox s t0 fun a1 s1x0 =>
 P41_1 R n0 ro rt a1 (I64 0) (I64 0) s1x0 QR) : P41_0 R n0 ro rt t0 s QR :=
  wpc_mp (lv := lv41) (ct := ct41) _ _ _ _ h (by kernel_rfl)
theorem p41_1 {R : RT} {n0 ro rt : Nat} {t1 t3 t4 : AV} {s : Sto} {QR : QT} (h :
 wFad s t1 3 fun a6 =>
 wLd (env R) s none a6 fun a7 =>
 wLen s a7 fun a8 =>
 wInt .i64 .lss t4 a8 fun a9 =>
 wCond a9 (
 P41_2 R n0 ro rt t1 t3 t4 s QR) (
 P41_3 R n0 ro rt t3 s QR)) : P41_1 R n0 ro rt t1 t3 t4 s QR :=
  wpl_mp (lv := lv41) (ct := ct41) _ _ _ _ h (by kernel_rfl)
theorem p41_2 {R : RT} {n0 ro rt : Nat} {t1 t3 t4 : AV} {s : Sto} {QR : QT} (h :
 wFad s t1 3 fun a13 =>
 wLd (env R) s none a13 fun a14 =>
 wIdx s 4 a14 t4 fun a16 =>
 wLd (env R) s (some 4) a16 fun a17 =>
 wCall (env R) (LFE (env R) 41 n0 ro rt) (.func (.func 41) [] []) [a17] s fun a18 s1x0 =>
 wAnyT (env R) (LFE (env R) 41 n0 ro rt) s1x0 (lkE [(18,a18),(17,a17),(16,a16),(15,t4),(14,a14),(13,a13),(12,t3),(1,t1),(3,t3),(4,t4)]) (opOf (sub b41 [1,1,0,1,0,0,1,0,0]) 7) fun a19 s1x1 =>
 P41_4 R n0 ro rt t1 a19 t4 s1x1 QR) : P41_2 R n0 ro rt t1 t3 t4 s QR :=
  wpc_mp (lv := lv41) (ct := ct41) _ _ _ _ h (by kernel_rfl)
theorem p41_3 {R : RT} {n0 ro rt : Nat} {t3 : AV} {s : Sto} {QR : QT} (h :
 wInt .i64 .add t3 (I64 1) fun a21 =>
 QR a21 s) : P41_3 R n0 ro rt t3 s QR :=
  wpc_mp (lv := lv41) (ct := ct41) _ _ _ _ h (by kernel_rfl)
theorem p41_4 {R : RT} {n0 ro rt : Nat} {t1 t3 t4 : AV} {s : Sto} {QR : QT} (h :
 wInt .i64 .add t4 (I64 1) fun a11 =>
 P41_1 R n0 ro rt t1 t3 a11 s QR) : P41_4 R n0 ro rt t1 t3 t4 s QR :=
  wpc_mp (lv := lv41) (ct := ct41) _ _ _ _ h (by kernel_rfl)
theorem e41 {R : RT} {t0 : AV} {u0 : AV} {Post : AV → Prop} (hcl : closeL [] 0 0 [t0] = some [u0]) (h : P41_0 R 0 0 0 u0 ⟨[],[]⟩ (QP Post)) : PureC (env R) 41 [t0] Post :=
  call_rd (fn := Tryz.f41) (body := b41) Tryz.func41 (by kernel_rfl) (by kernel_rfl) (by kernel_rfl) (Nat.le_of_ble_eq_true (by kernel_rfl)) hcl (mpK h (by kernel_rfl))
/-! 42: telpher/telref1.wellFormed -/
noncomputable def b42 : Code := Tryz.f42.body.getD .skip
def lv42 (f : Nat) : List Nat := bif Nat.blt f 17 then (
 bif Nat.blt f 8 then (
  bif Nat.blt f 4 then (
   bif Nat.blt f 2 then (
    bif Nat.beq f 1 then [1] else []) else (
    bif Nat.blt f 3 then (
     bif Nat.beq f 2 then [1,3] else []) else (
     bif Nat.beq f 3 then [1,3,26] else []))) else (
   bif Nat.blt f 6 then (
    bif Nat.beq f 4 then [1,3] else []) else (
    bif Nat.blt f 7 then (
     bif Nat.beq f 6 then [1,3,28] else []) else (
     bif Nat.beq f 7 then [1,3,28,29] else [])))) else (
  bif Nat.blt f 13 then (
   bif Nat.blt f 10 then (
    bif Nat.beq f 8 then [1,3,28,29] else []) else (
    bif Nat.blt f 12 then (
     bif Nat.beq f 10 then [1,3,28,34] else []) else (
     bif Nat.beq f 12 then [1,3,28,48] else []))) else (
   bif Nat.blt f 15 then (
    bif Nat.blt f 14 then (
     bif Nat.beq f 13 then [1,3,62] else []) else (
     bif Nat.beq f 14 then [1,3] else [])) else (
    bif Nat.blt f 16 then (
     bif Nat.beq f 15 then [1,3,4] else []) else (
     bif Nat.beq f 16 then [1,3,4] else []))))) else (
 bif Nat.blt f 27 then (
  bif Nat.blt f 21 then (
   bif Nat.blt f 18 then (
    bif Nat.beq f 17 then [1,3,4] else []) else (
    bif Nat.blt f 20 then (
     bif Nat.beq f 18 then [1,3,4,74] else []) else (
     bif Nat.beq f 20 then [1,3,28,75] else []))) else (
   bif Nat.blt f 24 then (
    bif Nat.blt f 23 then (
     bif Nat.beq f 21 then [1,3,78] else []) else (
     bif Nat.beq f 23 then [1,3,28,79] else [])) else (
    bif Nat.blt f 26 then (
     bif Nat.beq f 24 then [1,3,82] else []) else (
     bif Nat.beq f 26 then [1,3,83] else [])))) else (
  bif Nat.blt f 30 then (
   bif Nat.blt f 28 then (
    bif Nat.beq f 27 then [1,3,94] else []) else (
    bif Nat.blt f 29 then (
     bif Nat.beq f 28 then [1,3] else []) else (
     bif Nat.beq f 29 then [1,3,5] else []))) else (
   bif Nat.blt f 32 then (
    bif Nat.blt f 31 then (
     bif Nat.beq f 30 then [1,3,5] else []) else (
     bif Nat.beq f 31 then [1,3,5] else [])) else (
    bif Nat.blt f 33 then (
     bif Nat.beq f 32 then [1,3,5,106] else []) else (
     bif Nat.beq f 33 then [] else [])))))
def ct42 (f : Nat) : Bool := false
def P42_0 (R : RT) (n0 ro rt : Nat) (t0 : AV) (s : Sto) (QR : QT) : Prop := Wp (env R) (LFE (env R) 42 n0 ro rt) 107 [.tmp 2] (sub b42 []) [] [(0,t0)] s QR
def P42_1 (R : RT) (n0 ro rt : Nat) (t1 t3 : AV) (s : Sto) (QR : QT) : Prop := Wp (env R) (LFE (env R) 42 n0 ro rt) 107 [.tmp 2] (sub b42 [1,1,1]) [] [(1,t1),(3,t3)] s QR
def P42_2 (R : RT) (n0 ro rt : Nat) (t1 t3 t28 t29 : AV) (s : Sto) (QR : QT) : Prop := Wp (env R) (LFE (env R) 42 n0 ro rt) 107 [.tmp 2] (sub b42 [1,1,1,0,1,0,1]) [.blk 0,.seq (sub b42 [1,1,1,1])] [(1,t1),(3,t3),(28,t28),(29,t29)] s QR
def P42_3 (R : RT) (n0 ro rt : Nat) (t1 t3 : AV) (s : Sto) (QR : QT) : Prop := Wp (env R) (LFE (env R) 42 n0 ro rt) 107 [.tmp 2] (sub b42 [1,1,1,0,1,0,1,1,1,1,1,0,1]) [.blk 0,.seq (sub b42 [1,1,1,1])] [(1,t1),(3,t3)] s QR
def P42_4 (R : RT) (n0 ro rt : Nat) (t1 t3 : AV) (s : Sto) (QR : QT) : Prop := Wp (env R) (LFE (env R) 42 n0 ro rt) 107 [.tmp 2] (sub b42 [1,1,1,1]) [] [(1,t1),(3,t3)] s QR
def P42_5 (R : RT) (n0 ro rt : Nat) (t1 t3 t4 : AV) (s : Sto) (QR : QT) : Prop := Wp (env R) (LFE (env R) 42 n0 ro rt) 107 [.tmp 2] (.loop (sub b42 [1,1,1,0,1,0,1,1,1,1,1,0,1,1,0,0])) [.blk 1,.blk 0,.seq (sub b42 [1,1,1,1])] [(1,t1),(3,t3),(4,t4)] s QR
def P42_6 (R : RT) (n0 ro rt : Nat) (t1 t3 t5 : AV) (s : Sto) (QR : QT) : Prop := Wp (env R) (LFE (env R) 42 n0 ro rt) 107 [.tmp 2] (.loop (sub b42 [1,1,1,1,0,1,0,0])) [.blk 3,.seq (sub b42 [1,1,1,1,1])] [(1,t1),(3,t3),(5,t5)] s QR
def P42_7 (R : RT) (n0 ro rt : Nat) (t1 t3 t4 : AV) (s : Sto) (QR : QT) : Prop := Wp (env R) (LFE (env R) 42 n0 ro rt) 107 [.tmp 2] (sub b42 [1,1,1,0,1,0,1,1,1,1,1,0,1,1,0,0,1]) [.loop (sub b42 [1,1,1,0,1,0,1,1,1,1,1,0,1,1,0,0]),.blk 1,.blk 0,.seq (sub b42 [1,1,1,1])] [(1,t1),(3,t3),(4,t4)] s QR
def P42_8 (R : RT) (n0 ro rt : Nat) (t1 t3 t5 : AV) (s : Sto) (QR : QT) : Prop := Wp (env R) (LFE (env R) 42 n0 ro rt) 107 [.tmp 2] (sub b42 [1,1,1,1,0,1,0,0,1]) [.loop (sub b42 [1,1,1,1,0,1,0,0]),.blk 3,.seq (sub b42 [1,1,1,1,1])] [(1,t1),(3,t3),(5,t5)] s QR
def P42_9 (R : RT) (n0 ro rt : Nat) (s : Sto) (QR : QT) : Prop := Wp (env R) (LFE (env R) 42 n0 ro rt) 107 [.tmp 2] (sub b42 [1,1,1,1,1]) [] [] s QR
def P42_10 (R : RT) (n0 ro rt : Nat) (t1 t3 t4 : AV) (s : Sto) (QR : QT) : Prop := Wp (env R) (LFE (env R) 42 n0 ro rt) 107 [.tmp 2] (sub b42 [1,1,1,0,1,0,1,1,1,1,1,0,1,1,0,0,1,1]) [.loop (sub b42 [1,1,1,0,1,0,1,1,1,1,1,0,1,1,0,0]),.blk 1,.blk 0,.seq (sub b42 [1,1,1,1])] [(1,t1),(3,t3),(4,t4)] s QR
def P42_11 (R : RT) (n0 ro rt : Nat) (t1 t3 t5 : AV) (s : Sto) (QR : QT) : Prop := Wp (env R) (LFE (env R) 42 n0 ro rt) 107 [.tmp 2] (sub b42 [1,1,1,1,0,1,0,0,1,1]) [.loop (sub b42 [1,1,1,1,0,1,0,0]),.blk 3,.seq (sub b42 [1,1,1,1,1])] [(1,t1),(3,t3),(5,t5)] s QR
theorem p42_0 {R : RT} {n0 ro rt : Nat} {t0 : AV} {s : Sto} {QR : QT} (h :
 wBox s t0 fun a1 s1x0 =>
 wFad s1x0 a1 3 fun a6 =>
 wLd (env R) s1x0 none a6 fun a7 =>
 wLen s1x0 a7 fun a8 =>
 wFad s1x0 a1 0 fun a9 =>
 wLd (env R) s1x0 none a9 fun a10 =>
 wInt .i64 .neq a10 (I64 2) fun a11 =>
 wGK a11 true s1x0 (fun K => wFad s1x0 a1 1 fun a13 => K a13 s1x0) fun a13x1 s1x2 =>
 wGK a11 true s1x2 (fun K => wLd (env R) s1x2 none a13x1 fun a14 => K a14 s1x2) fun a14x3 s1x4 =>
 wGK a11 true s1x4 (fun K => wStr .neq a14x3 (SS []) fun a15 => K a15 s1x4) fun a15x5 s1x6 =>
 wPick a11 a15x5 (BB false) fun a16 =>
 wGK a16 false s1x6 (fun K => wFad s1x6 a1 0 fun a18 => K a18 s1x6) fun a18x7 s1x8 =>
 wGK a16 false s1x8 (fun K => wLd (env R) s1x8 none a18x7 fun a19 => K a19 s1x8) fun a19x9 s1x10 =>
 wGK a16 false s1x10 (fun K => wInt .i64 .neq a19x9 (I64 5) fun a20 => K a20 s1x10) fun a20x11 s1x12 =>
 wGK a16 false s1x12 (fun K => K a20x11 s1x12) fun a21 s1x13 =>
 wGK a21 true s1x13 (fun K => wFad s1x13 a1 2 fun a22 => K a22 s1x13) fun a22x14 s1x15 =>
 wGK a21 true s1x15 (fun K => wLd (env R) s1x15 none a22x14 fun a23 => K a23 s1x15) fun a23x16 s1x17 =>
 wGK a21 true s1x17 (fun K => wInt .i64 .neq a23x16 (I64 0) fun a24 => K a24 s1x17) fun a24x18 s1x19 =>
 wGK a16 false s1x19 (fun K => wPick a21 a24x18 (BB false) fun a25 => K a25 s1x19) fun a25x20 s1x21 =>
 wPick a16 (BB true) a25x20 fun a26 =>
 wCond a26 (
 QR (BB false) s1x21) (
 P42_1 R n0 ro rt a1 a8 s1x21 QR)) : P42_0 R n0 ro rt t0 s QR :=
  wpc_mp (lv := lv42) (ct := ct42) _ _ _ _ h (by kernel_rfl)
theorem p42_1 {R : RT} {n0 ro rt : Nat} {t1 t3 : AV} {s : Sto} {QR : QT} (h :
 wFad s t1 0 fun a27 =>
 wLd (env R) s none a27 fun a28 =>
 wInt .i64 .eql a28 (I64 0) fun a30 =>
 wCond a30 (
 P42_2 R n0 ro rt t1 t3 a28 a30 s QR) (
 wInt .i64 .eql a28 (I64 1) fun a31 =>
 P42_2 R n0 ro rt t1 t3 a28 a31 s QR)) : P42_1 R n0 ro rt t1 t3 s QR :=
  wpc_mp (lv := lv42) (ct := ct42) _ _ _ _ h (by kernel_rfl)
theorem p42_2 {R : RT} {n0 ro rt : Nat} {t1 t3 t28 t29 : AV} {s : Sto} {QR : QT} (h :
 wCond t29 (
 wInt .i64 .eql t3 (I64 0) fun a33 =>
 QR a33 s) (
 wInt .i64 .eql t28 (I64 5) fun a35 =>
 wCond a35 (
 wInt .i64 .eql t3 (I64 0) fun a37 =>
 wGK a37 true s (fun K => wFad s t1 2 fun a39 => K a39 s) fun a39x0 s1x1 =>
 wGK a37 true s1x1 (fun K => wLd (env R) s1x1 none a39x0 fun a40 => K a40 s1x1) fun a40x2 s1x3 =>
 wGK a37 true s1x3 (fun K => wInt .i64 .geq a40x2 (I64 0) fun a41 => K a41 s1x3) fun a41x4 s1x5 =>
 wPick a37 a41x4 (BB false) fun a42 =>
 wGK a42 true s1x5 (fun K => wFad s1x5 t1 2 fun a44 => K a44 s1x5) fun a44x6 s1x7 =>
 wGK a42 true s1x7 (fun K => wLd (env R) s1x7 none a44x6 fun a45 => K a45 s1x7) fun a45x8 s1x9 =>
 wGK a42 true s1x9 (fun K => wInt .i64 .leq a45x8 (I64 200) fun a46 => K a46 s1x9) fun a46x10 s1x11 =>
 wPick a42 a46x10 (BB false) fun a47 =>
 QR a47 s1x11) (
 wInt .i64 .eql t28 (I64 2) fun a49 =>
 wCond a49 (
 wFad s t1 1 fun a50 =>
 wLd (env R) s none a50 fun a51 =>
 wCall (env R) (LFE (env R) 42 n0 ro rt) (.func (.func 67) [] []) [a51] s fun a52 s1x12 =>
 wNot a52 fun a53 =>
 wGK a53 false s1x12 (fun K => wFad s1x12 t1 1 fun a55 => K a55 s1x12) fun a55x13 s1x14 =>
 wGK a53 false s1x14 (fun K => wLd (env R) s1x14 none a55x13 fun a56 => K a56 s1x14) fun a56x15 s1x16 =>
 wGK a53 false s1x16 (fun K => wCall (env R) (LFE (env R) 42 n0 ro rt) (.func (.func 68) [] []) [a56x15] s1x16 fun a57 s1x17 => K a57 s1x17) fun a57x18 s1x19 =>
 wPick a53 (BB true) a57x18 fun a58 =>
 wGK a58 false s1x19 (fun K => K t3 s1x19) fun a60 s1x20 =>
 wGK a58 false s1x20 (fun K => wInt .i64 .gtr a60 (I64 6) fun a61 => K a61 s1x20) fun a61x21 s1x22 =>
 wPick a58 (BB true) a61x21 fun a62 =>
 wCond a62 (
 QR (BB false) s1x22) (
 P42_3 R n0 ro rt t1 t3 s1x22 QR)) (
 wInt .i64 .eql t28 (I64 3) fun a76 =>
 wCond a76 (
 wInt .i64 .gtr t3 (I64 6) fun a78 =>
 wCond a78 (
 QR (BB false) s) (
 P42_4 R n0 ro rt t1 t3 s QR)) (
 wInt .i64 .eql t28 (I64 4) fun a80 =>
 wCond a80 (
 wInt .i64 .lss t3 (I64 2) fun a82 =>
 wCond a82 (
 QR (BB false) s) (
 P42_4 R n0 ro rt t1 t3 s QR)) (
 wInt .i64 .eql t28 (I64 6) fun a84 =>
 wCond a84 (
 wInt .i64 .neq t3 (I64 2) fun a86 =>
 wGK a86 false s (fun K => wFad s t1 3 fun a88 => K a88 s) fun a88x23 s1x24 =>
 wGK a86 false s1x24 (fun K => wLd (env R) s1x24 none a88x23 fun a89 => K a89 s1x24) fun a89x25 s1x26 =>
 wGK a86 false s1x26 (fun K => wIdx s1x26 4 a89x25 (I64 0) fun a90 => K a90 s1x26) fun a90x27 s1x28 =>
 wGK a86 false s1x28 (fun K => wLd (env R) s1x28 (some 4) a90x27 fun a91 => K a91 s1x28) fun a91x29 s1x30 =>
 wGK a86 false s1x30 (fun K => wCall (env R) (LFE (env R) 42 n0 ro rt) (.func (.func 70) [] []) [a91x29] s1x30 fun a92 s1x31 => K a92 s1x31) fun a92x32 s1x33 =>
 wGK a86 false s1x33 (fun K => wNot a92x32 fun a93 => K a93 s1x33) fun a93x34 s1x35 =>
 wPick a86 (BB true) a93x34 fun a94 =>
 wCond a94 (
 QR (BB false) s1x35) (
 P42_4 R n0 ro rt t1 t3 s1x35 QR)) (
 QR (BB false) s))))))) : P42_2 R n0 ro rt t1 t3 t28 t29 s QR :=
  wpc_mp (lv := lv42) (ct := ct42) _ _ _ _ h (by kernel_rfl)
theorem p42_3 {R : RT} {n0 ro rt : Nat} {t1 t3 : AV} {s : Sto} {QR : QT} (h :
 P42_5 R n0 ro rt t1 t3 (I64 0) s QR) : P42_3 R n0 ro rt t1 t3 s QR :=
  wpc_mp (lv := lv42) (ct := ct42) _ _ _ _ h (by kernel_rfl)
theorem p42_4 {R : RT} {n0 ro rt : Nat} {t1 t3 : AV} {s : Sto} {QR : QT} (h :
 P42_6 R n0 ro rt t1 t3 (I64 0) s QR) : P42_4 R n0 ro rt t1 t3 s QR :=
  wpc_mp (lv := lv42) (ct := ct42) _ _ _ _ h (by kernel_rfl)
theorem p42_5 {R : RT} {n0 ro rt : Nat} {t1 t3 t4 : AV} {s : Sto} {QR : QT} (h :
 wInt .i64 .lss t4 t3 fun a65 =>
 wCond a65 (
 P42_7 R n0 ro rt t1 t3 t4 s QR) (
 P42_4 R n0 ro rt t1 t3 s QR)) : P42_5 R n0 ro rt t1 t3 t4 s QR :=
  wpl_mp (lv := lv42) (ct := ct42) _ _ _ _ h (by kernel_rfl)
theorem p42_6 {R : RT} {n0 ro rt : Nat} {t1 t3 t5 : AV} {s : Sto} {QR : QT} (h :
 wInt .i64 .lss t5 t3 fun a97 =>
 wCond a97 (
 P42_8 R n0 ro rt t1 t3 t5 s QR) (
 P42_9 R n0 ro rt  s QR)) : P42_6 R n0 ro rt t1 t3 t5 s QR :=
  wpl_mp (lv := lv42) (ct := ct42) _ _ _ _ h (by kernel_rfl)
theorem p42_7 {R : RT} {n0 ro rt : Nat} {t1 t3 t4 : AV} {s : Sto} {QR : QT} (h :
 wFad s t1 3 fun a68 =>
 wLd (env R) s none a68 fun a69 =>
 wIdx s 4 a69 t4 fun a71 =>
 wLd (env R) s (some 4) a71 fun a72 =>
 wCall (env R) (LFE (env R) 42 n0 ro rt) (.func (.func 69) [] []) [a72] s fun a73 s1x0 =>
 wNot a73 fun a74 =>
 wCond a74 (
 QR (BB false) s1x0) (
 P42_10 R n0 ro rt t1 t3 t4 s1x0 QR)) : P42_7 R n0 ro rt t1 t3 t4 s QR :=
  wpc_mp (lv := lv42) (ct := ct42) _ _ _ _ h (by kernel_rfl)
theorem p42_8 {R : RT} {n0 ro rt : Nat} {t1 t3 t5 : AV} {s : Sto} {QR : QT} (h :
 wFad s t1 3 fun a100 =>
 wLd (env R) s none a100 fun a101 =>
 wIdx s 4 a101 t5 fun a103 =>
 wLd (env R) s (some 4) a103 fun a104 =>
 wCall (env R) (LFE (env R) 42 n0 ro rt) (.func (.func 42) [] []) [a104] s fun a105 s1x0 =>
 wNot a105 fun a106 =>
 wCond a106 (
 QR (BB false) s1x0) (
 P42_11 R n0 ro rt t1 t3 t5 s1x0 QR)) : P42_8 R n0 ro rt t1 t3 t5 s QR :=
  wpc_mp (lv := lv42) (ct := ct42) _ _ _ _ h (by kernel_rfl)
theorem p42_9 {R : RT} {n0 ro rt : Nat} {s : Sto} {QR : QT} (h :
 QR (BB true) s) : P42_9 R n0 ro rt  s QR :=
  wpc_mp (lv := lv42) (ct := ct42) _ _ _ _ h (by kernel_rfl)
theorem p42_10 {R : RT} {n0 ro rt : Nat} {t1 t3 t4 : AV} {s : Sto} {QR : QT} (h :
 wInt .i64 .add t4 (I64 1) fun a67 =>
 P42_5 R n0 ro rt t1 t3 a67 s QR) : P42_10 R n0 ro rt t1 t3 t4 s QR :=
  wpc_mp (lv := lv42) (ct := ct42) _ _ _ _ h (by kernel_rfl)
theorem p42_11 {R : RT} {n0 ro rt : Nat} {t1 t3 t5 : AV} {s : Sto} {QR : QT} (h :
 wInt .i64 .add t5 (I64 1) fun a99 =>
 P42_6 R n0 ro rt t1 t3 a99 s QR) : P42_11 R n0 ro rt t1 t3 t5 s QR :=
  wpc_mp (lv := lv42) (ct := ct42) _ _ _ _ h (by kernel_rfl)
theorem e42 {R : RT} {t0 : AV} {u0 : AV} {Post : AV → Prop} (hcl : closeL [] 0 0 [t0] = some [u0]) (h : P42_0 R 0 0 0 u0 ⟨[],[]⟩ (QP Post)) : PureC (env R) 42 [t0] Post :=
  call_rd (fn := Tryz.f42) (body := b42) Tryz.func42 (by kernel_rfl) (by kernel_rfl) (by kernel_rfl) (Nat.le_of_ble_eq_true (by kernel_rfl)) hcl (mpK h (by kernel_rfl))
/-! 67: telpher/telref1.IsIdent -/
noncomputable def b67 : Code := Tryz.f67.body.getD .skip
def lv67 (f : Nat) : List Nat := bif Nat.blt f 5 then (
 bif Nat.blt f 3 then (
  bif Nat.blt f 2 then (
   bif Nat.beq f 1 then [0] else []) else (
   bif Nat.beq f 2 then [0,17] else [])) else (
  bif Nat.blt f 4 then (
   bif Nat.beq f 3 then [0] else []) else (
   bif Nat.beq f 4 then [0,3] else []))) else (
 bif Nat.blt f 7 then (
  bif Nat.blt f 6 then (
   bif Nat.beq f 5 then [0,3] else []) else (
   bif Nat.beq f 6 then [0,3] else [])) else (
  bif Nat.blt f 8 then (
   bif Nat.beq f 7 then [0,3,34] else []) else (
   bif Nat.beq f 8 then [] else [])))
def ct67 (f : Nat) : Bool := false
def P67_0 (R : RT) (n0 ro rt : Nat) (t0 : AV) (s : Sto) (QR : QT) : Prop := Wp (env R) (LFE (env R) 67 n0 ro rt) 35 [.tmp 2] (sub b67 []) [] [(0,t0)] s QR
def P67_1 (R : RT) (n0 ro rt : Nat) (t0 : AV) (s : Sto) (QR : QT) : Prop := Wp (env R) (LFE (env R) 67 n0 ro rt) 35 [.tmp 2] (sub b67 [1,1]) [] [(0,t0)] s QR
def P67_2 (R : RT) (n0 ro rt : Nat) (t0 t3 : AV) (s : Sto) (QR : QT) : Prop := Wp (env R) (LFE (env R) 67 n0 ro rt) 35 [.tmp 2] (.loop (sub b67 [1,1,0,1,0,0])) [.blk 0,.seq (sub b67 [1,1,1])] [(0,t0),(3,t3)] s QR
def P67_3 (R : RT) (n0 ro rt : Nat) (t0 t3 : AV) (s : Sto) (QR : QT) : Prop := Wp (env R) (LFE (env R) 67 n0 ro rt) 35 [.tmp 2] (sub b67 [1,1,0,1,0,0,1]) [.loop (sub b67 [1,1,0,1,0,0]),.blk 0,.seq (sub b67 [1,1,1])] [(0,t0),(3,t3)] s QR
def P67_4 (R : RT) (n0 ro rt : Nat) (s : Sto) (QR : QT) : Prop := Wp (env R) (LFE (env R) 67 n0 ro rt) 35 [.tmp 2] (sub b67 [1,1,1]) [] [] s QR
def P67_5 (R : RT) (n0 ro rt : Nat) (t0 t3 : AV) (s : Sto) (QR : QT) : Prop := Wp (env R) (LFE (env R) 67 n0 ro rt) 35 [.tmp 2] (sub b67 [1,1,0,1,0,0,1,1]) [.loop (sub b67 [1,1,0,1,0,0]),.blk 0,.seq (sub b67 [1,1,1])] [(0,t0),(3,t3)] s QR
theorem p67_0 {R : RT} {n0 ro rt : Nat} {t0 : AV} {s : Sto} {QR : QT} (h :
 wSlen t0 fun a5 =>
 wInt .i64 .lss a5 (I64 1) fun a6 =>
 wGK a6 false s (fun K => K t0 s) fun a8 s1x0 =>
 wGK a6 false s1x0 (fun K => wSlen a8 fun a9 => K a9 s1x0) fun a9x1 s1x2 =>
 wGK a6 false s1x2 (fun K => wInt .i64 .gtr a9x1 (I64 24) fun a10 => K a10 s1x2) fun a10x3 s1x4 =>
 wPick a6 (BB true) a10x3 fun a11 =>
 wGK a11 false s1x4 (fun K => K t0 s1x4) fun a13 s1x5 =>
 wGK a11 false s1x5 (fun K => wSidx a13 (I64 0) fun a14 => K a14 s1x5) fun a14x6 s1x7 =>
 wGK a11 false s1x7 (fun K => wCall (env R) (LFE (env R) 67 n0 ro rt) (.func (.func 94) [] []) [a14x6] s1x7 fun a15 s1x8 => K a15 s1x8) fun a15x9 s1x10 =>
 wGK a11 false s1x10 (fun K => wNot a15x9 fun a16 => K a16 s1x10) fun a16x11 s1x12 =>
 wPick a11 (BB true) a16x11 fun a17 =>
 wCond a17 (
 QR (BB false) s1x12) (
 P67_1 R n0 ro rt t0 s1x12 QR)) : P67_0 R n0 ro rt t0 s QR :=
  wpc_mp (lv := lv67) (ct := ct67) _ _ _ _ h (by kernel_rfl)
theorem p67_1 {R : RT} {n0 ro rt : Nat} {t0 : AV} {s : Sto} {QR : QT} (h :
 P67_2 R n0 ro rt t0 (I64 0) s QR) : P67_1 R n0 ro rt t0 s QR :=
  wpc_mp (lv := lv67) (ct := ct67) _ _ _ _ h (by kernel_rfl)
theorem p67_2 {R : RT} {n0 ro rt : Nat} {t0 t3 : AV} {s : Sto} {QR : QT} (h :
 wSlen t0 fun a20 =>
 wInt .i64 .lss t3 a20 fun a21 =>
 wCond a21 (
 P67_3 R n0 ro rt t0 t3 s QR) (
 P67_4 R n0 ro rt  s QR)) : P67_2 R n0 ro rt t0 t3 s QR :=
  wpl_mp (lv := lv67) (ct := ct67) _ _ _ _ h (by kernel_rfl)
theorem p67_3 {R : RT} {n0 ro rt : Nat} {t0 t3 : AV} {s : Sto} {QR : QT} (h :
 wSidx t0 t3 fun a26 =>
 wCall (env R) (LFE (env R) 67 n0 ro rt) (.func (.func 95) [] []) [a26] s fun a27 s1x0 =>
 wNot a27 fun a28 =>
 wGK a28 false s1x0 (fun K => K t0 s1x0) fun a30 s1x1 =>
 wGK a28 false s1x1 (fun K => K t3 s1x1) fun a31 s1x2 =>
 wGK a28 false s1x2 (fun K => wSidx a30 a31 fun a32 => K a32 s1x2) fun a32x3 s1x4 =>
 wGK a28 false s1x4 (fun K => wInt .u8 .eql a32x3 (.pv (.sc (.int .u8 45))) fun a33 => K a33 s1x4) fun a33x5 s1x6 =>
 wPick a28 (BB true) a33x5 fun a34 =>
 wCond a34 (
 QR (BB false) s1x6) (
 P67_5 R n0 ro rt t0 t3 s1x6 QR)) : P67_3 R n0 ro rt t0 t3 s QR :=
  wpc_mp (lv := lv67) (ct := ct67) _ _ _ _ h (by kernel_rfl)
theorem p67_4 {R : RT} {n0 ro rt : Nat} {s : Sto} {QR : QT} (h :
 QR (BB true) s) : P67_4 R n0 ro rt  s QR :=
  wpc_mp (lv := lv67) (ct := ct67) _ _ _ _ h (by kernel_rfl)
theorem p67_5 {R : RT} {n0 ro rt : Nat} {t0 t3 : AV} {s : Sto} {QR : QT} (h :
 wInt .i64 .add t3 (I64 1) fun a23 =>
 P67_2 R n0 ro rt t0 a23 s QR) : P67_5 R n0 ro rt t0 t3 s QR :=
  wpc_mp (lv := lv67) (ct := ct67) _ _ _ _ h (by kernel_rfl)
theorem e67 {R : RT} {t0 : AV} {u0 : AV} {Post : AV → Prop} (hcl : closeL [] 0 0 [t0] = some [u0]) (h : P67_0 R 0 0 0 u0 ⟨[],[]⟩ (QP Post)) : PureC (env R) 67 [t0] Post :=
  call_rd (fn := Tryz.f67) (body := b67) Tryz.func67 (by kernel_rfl) (by kernel_rfl) (by kernel_rfl) (Nat.le_of_ble_eq_true (by kernel_rfl)) hcl (mpK h (by kernel_rfl))
/-! 68: telpher/telref1.IsTypeKeyword -/
noncomputable def b68 : Code := Tryz.f68.body.getD .skip
def lv68 (f : Nat) : List Nat := bif Nat.beq f 1 then [0] else []
def ct68 (f : Nat) : Bool := false
def P68_0 (R : RT) (n0 ro rt : Nat) (t0 : AV) (s : Sto) (QR : QT) : Prop := Wp (env R) (LFE (env R) 68 n0 ro rt) 21 [.tmp 2] (sub b68 []) [] [(0,t0)] s QR
theorem p68_0 {R : RT} {n0 ro rt : Nat} {t0 : AV} {s : Sto} {QR : QT} (h :
 wStr .eql t0 (SS [65,110,121]) fun a4 =>
 wGK a4 false s (fun K => K t0 s) fun a6 s1x0 =>
 wGK a4 false s1x0 (fun K => wStr .eql a6 (SS [78,101,118,101,114]) fun a7 => K a7 s1x0) fun a7x1 s1x2 =>
 wPick a4 (BB true) a7x1 fun a8 =>
 wGK a8 false s1x2 (fun K => K t0 s1x2) fun a10 s1x3 =>
 wGK a8 false s1x3 (fun K => wStr .eql a10 (SS [116,117,112,108,101]) fun a11 => K a11 s1x3) fun a11x4 s1x5 =>
 wPick a8 (BB true) a11x4 fun a12 =>
 wGK a12 false s1x5 (fun K => K t0 s1x5) fun a14 s1x6 =>
 wGK a12 false s1x6 (fun K => wStr .eql a14 (SS [117,110,105,111,110]) fun a15 => K a15 s1x6) fun a15x7 s1x8 =>
 wPick a12 (BB true) a15x7 fun a16 =>
 wGK a16 false s1x8 (fun K => K t0 s1x8) fun a18 s1x9 =>
 wGK a16 false s1x9 (fun K => wStr .eql a18 (SS [101,120,105,115,116,115]) fun a19 => K a19 s1x9) fun a19x10 s1x11 =>
 wPick a16 (BB true) a19x10 fun a20 =>
 QR a20 s1x11) : P68_0 R n0 ro rt t0 s QR :=
  wpc_mp (lv := lv68) (ct := ct68) _ _ _ _ h (by kernel_rfl)
theorem e68 {R : RT} {t0 : AV} {u0 : AV} {Post : AV → Prop} (hcl : closeL [] 0 0 [t0] = some [u0]) (h : P68_0 R 0 0 0 u0 ⟨[],[]⟩ (QP Post)) : PureC (env R) 68 [t0] Post :=
  call_rd (fn := Tryz.f68) (body := b68) Tryz.func68 (by kernel_rfl) (by kernel_rfl) (by kernel_rfl) (Nat.le_of_ble_eq_true (by kernel_rfl)) hcl (mpK h (by kernel_rfl))
/-! 69: telpher/telref1.TermPlain -/
noncomputable def b69 : Code := Tryz.f69.body.getD .skip
def lv69 (f : Nat) : List Nat := bif Nat.blt f 5 then (
 bif Nat.blt f 3 then (
  bif Nat.blt f 2 then (
   bif Nat.beq f 1 then [1] else []) else (
   bif Nat.beq f 2 then [1,10] else [])) else (
  bif Nat.blt f 4 then (
   bif Nat.beq f 3 then [1] else []) else (
   bif Nat.beq f 4 then [1,3] else []))) else (
 bif Nat.blt f 7 then (
  bif Nat.blt f 6 then (
   bif Nat.beq f 5 then [1,3] else []) else (
   bif Nat.beq f 6 then [1,3] else [])) else (
  bif Nat.blt f 8 then (
   bif Nat.beq f 7 then [1,3,24] else []) else (
   bif Nat.beq f 8 then [1] else [])))
def ct69 (f : Nat) : Bool := false
def P69_0 (R : RT) (n0 ro rt : Nat) (t0 : AV) (s : Sto) (QR : QT) : Prop := Wp (env R) (LFE (env R) 69 n0 ro rt) 28 [.tmp 2] (sub b69 []) [] [(0,t0)] s QR
def P69_1 (R : RT) (n0 ro rt : Nat) (t1 : AV) (s : Sto) (QR : QT) : Prop := Wp (env R) (LFE (env R) 69 n0 ro rt) 28 [.tmp 2] (sub b69 [1,1]) [] [(1,t1)] s QR
def P69_2 (R : RT) (n0 ro rt : Nat) (t1 t3 : AV) (s : Sto) (QR : QT) : Prop := Wp (env R) (LFE (env R) 69 n0 ro rt) 28 [.tmp 2] (.loop (sub b69 [1,1,0,1,0,0])) [.blk 0,.seq (sub b69 [1,1,1])] [(1,t1),(3,t3)] s QR
def P69_3 (R : RT) (n0 ro rt : Nat) (t1 t3 : AV) (s : Sto) (QR : QT) : Prop := Wp (env R) (LFE (env R) 69 n0 ro rt) 28 [.tmp 2] (sub b69 [1,1,0,1,0,0,1]) [.loop (sub b69 [1,1,0,1,0,0]),.blk 0,.seq (sub b69 [1,1,1])] [(1,t1),(3,t3)] s QR
def P69_4 (R : RT) (n0 ro rt : Nat) (t1 : AV) (s : Sto) (QR : QT) : Prop := Wp (env R) (LFE (env R) 69 n0 ro rt) 28 [.tmp 2] (sub b69 [1,1,1]) [] [(1,t1)] s QR
def P69_5 (R : RT) (n0 ro rt : Nat) (t1 t3 : AV) (s : Sto) (QR : QT) : Prop := Wp (env R) (LFE (env R) 69 n0 ro rt) 28 [.tmp 2] (sub b69 [1,1,0,1,0,0,1,1]) [.loop (sub b69 [1,1,0,1,0,0]),.blk 0,.seq (sub b69 [1,1,1])] [(1,t1),(3,t3)] s QR
theorem p69_0 {R : RT} {n0 ro rt : Nat} {t0 : AV} {s : Sto} {QR : QT} (h :
 wBox s t0 fun a1 s1x0 =>
 wFad s1x0 a1 0 fun a4 =>
 wLd (env R) s1x0 none a4 fun a5 =>
 wInt .i64 .eql a5 (I64 5) fun a6 =>
 wGK a6 false s1x0 (fun K => wLd (env R) s1x0 (some 4) a1 fun a8 => K a8 s1x0) fun a8x1 s1x2 =>
 wGK a6 false s1x2 (fun K => wCall (env R) (LFE (env R) 69 n0 ro rt) (.func (.func 70) [] []) [a8x1] s1x2 fun a9 s1x3 => K a9 s1x3) fun a9x4 s1x5 =>
 wPick a6 (BB true) a9x4 fun a10 =>
 wCond a10 (
 QR (BB true) s1x5) (
 P69_1 R n0 ro rt a1 s1x5 QR)) : P69_0 R n0 ro rt t0 s QR :=
  wpc_mp (lv := lv69) (ct := ct69) _ _ _ _ h (by kernel_rfl)
theorem p69_1 {R : RT} {n0 ro rt : Nat} {t1 : AV} {s : Sto} {QR : QT} (h :
 P69_2 R n0 ro rt t1 (I64 0) s QR) : P69_1 R n0 ro rt t1 s QR :=
  wpc_mp (lv := lv69) (ct := ct69) _ _ _ _ h (by kernel_rfl)
theorem p69_2 {R : RT} {n0 ro rt : Nat} {t1 t3 : AV} {s : Sto} {QR : QT} (h :
 wFad s t1 3 fun a12 =>
 wLd (env R) s none a12 fun a13 =>
 wLen s a13 fun a14 =>
 wInt .i64 .lss t3 a14 fun a15 =>
 wCond a15 (
 P69_3 R n0 ro rt t1 t3 s QR) (
 P69_4 R n0 ro rt t1 s QR)) : P69_2 R n0 ro rt t1 t3 s QR :=
  wpl_mp (lv := lv69) (ct := ct69) _ _ _ _ h (by kernel_rfl)
theorem p69_3 {R : RT} {n0 ro rt : Nat} {t1 t3 : AV} {s : Sto} {QR : QT} (h :
 wFad s t1 3 fun a18 =>
 wLd (env R) s none a18 fun a19 =>
 wIdx s 4 a19 t3 fun a21 =>
 wLd (env R) s (some 4) a21 fun a22 =>
 wCall (env R) (LFE (env R) 69 n0 ro rt) (.func (.func 69) [] []) [a22] s fun a23 s1x0 =>
 wNot a23 fun a24 =>
 wCond a24 (
 QR (BB false) s1x0) (
 P69_5 R n0 ro rt t1 t3 s1x0 QR)) : P69_3 R n0 ro rt t1 t3 s QR :=
  wpc_mp (lv := lv69) (ct := ct69) _ _ _ _ h (by kernel_rfl)
theorem p69_4 {R : RT} {n0 ro rt : Nat} {t1 : AV} {s : Sto} {QR : QT} (h :
 wFad s t1 0 fun a25 =>
 wLd (env R) s none a25 fun a26 =>
 wInt .i64 .eql a26 (I64 2) fun a27 =>
 QR a27 s) : P69_4 R n0 ro rt t1 s QR :=
  wpc_mp (lv := lv69) (ct := ct69) _ _ _ _ h (by kernel_rfl)
theorem p69_5 {R : RT} {n0 ro rt : Nat} {t1 t3 : AV} {s : Sto} {QR : QT} (h :
 wInt .i64 .add t3 (I64 1) fun a17 =>
 P69_2 R n0 ro rt t1 a17 s QR) : P69_5 R n0 ro rt t1 t3 s QR :=
  wpc_mp (lv := lv69) (ct := ct69) _ _ _ _ h (by kernel_rfl)
theorem e69 {R : RT} {t0 : AV} {u0 : AV} {Post : AV → Prop} (hcl : closeL [] 0 0 [t0] = some [u0]) (h : P69_0 R 0 0 0 u0 ⟨[],[]⟩ (QP Post)) : PureC (env R) 69 [t0] Post :=
  call_rd (fn := Tryz.f69) (body := b69) Tryz.func69 (by kernel_rfl) (by kernel_rfl) (by kernel_rfl) (Nat.le_of_ble_eq_true (by kernel_rfl)) hcl (mpK h (by kernel_rfl))
/-! 70: telpher/telref1.TermClosed -/
noncomputable def b70 : Code := Tryz.f70.body.getD .skip
def lv70 (f : Nat) : List Nat := bif Nat.beq f 1 then [1] else []
def ct70 (f : Nat) : Bool := false
def P70_0 (R : RT) (n0 ro rt : Nat) (t0 : AV) (s : Sto) (QR : QT) : Prop := Wp (env R) (LFE (env R) 70 n0 ro rt) 7 [.tmp 2] (sub b70 []) [] [(0,t0)] s QR
theorem p70_0 {R : RT} {n0 ro rt : Nat} {t0 : AV} {s : Sto} {QR : QT} (h :
 wBox s t0 fun a1 s1x0 =>
 wLd (env R) s1x0 (some 4) a1 fun a3 =>
 wCall (env R) (LFE (env R) 70 n0 ro rt) (.func (.func 96) [] []) [a3] s1x0 fun a4 s1x1 =>
 wLen s1x1 a4 fun a5 =>
 wInt .i64 .eql a5 (I64 0) fun a6 =>
 QR a6 s1x1) : P70_0 R n0 ro rt t0 s QR :=
  wpc_mp (lv := lv70) (ct := ct70) _ _ _ _ h (by kernel_rfl)
theorem e70 {R : RT} {t0 : AV} {u0 : AV} {Post : AV → Prop} (hcl : closeL [] 0 0 [t0] = some [u0]) (h : P70_0 R 0 0 0 u0 ⟨[],[]⟩ (QP Post)) : PureC (env R) 70 [t0] Post :=
  call_rd (fn := Tryz.f70) (body := b70) Tryz.func70 (by kernel_rfl) (by kernel_rfl) (by kernel_rfl) (Nat.le_of_ble_eq_true (by kernel_rfl)) hcl (mpK h (by kernel_rfl))
/-! 96: telpher/telref1.TermFreeVars -/
noncomputable def b96 : Code := Tryz.f96.body.getD .skip
def lv96 (f : Nat) : List Nat := bif Nat.beq f 1 then [1] else []
def ct96 (f : Nat) : Bool := false
def P96_0 (R : RT) (n0 ro rt : Nat) (t0 : AV) (s : Sto) (QR : QT) : Prop := Wp (env R) (LFE (env R) 96 n0 ro rt) 5 [.tmp 2] (sub b96 []) [] [(0,t0)] s QR
theorem p96_0 {R : RT} {n0 ro rt : Nat} {t0 : AV} {s : Sto} {QR : QT} (h :
 wBox s t0 fun a1 s1x0 =>
 wLd (env R) s1x0 (some 4) a1 fun a3 =>
 wCall (env R) (LFE (env R) 96 n0 ro rt) (.func (.func 115) [] []) [a3,(I64 0),(.capped [])] s1x0 fun a4 s1x1 =>
 QR a4 s1x1) : P96_0 R n0 ro rt t0 s QR :=
  wpc_mp (lv := lv96) (ct := ct96) _ _ _ _ h (by kernel_rfl)
theorem e96 {R : RT} {t0 : AV} {u0 : AV} {Post : AV → Prop} (hcl : closeL [] 0 0 [t0] = some [u0]) (h : P96_0 R 0 0 0 u0 ⟨[],[]⟩ (QP Post)) : PureC (env R) 96 [t0] Post :=
  call_rd (fn := Tryz.f96) (body := b96) Tryz.func96 (by kernel_rfl) (by kernel_rfl) (by kernel_rfl) (Nat.le_of_ble_eq_true (by kernel_rfl)) hcl (mpK h (by kernel_rfl))
/-! 115: telpher/telref1.freeVars -/
noncomputable def b115 : Code := Tryz.f115.body.getD .skip
def lv115 (f : Nat) : List Nat := bif Nat.blt f 4 then (
 bif Nat.blt f 2 then (
  bif Nat.beq f 1 then [1,2,3] else []) else (
  bif Nat.blt f 3 then (
   bif Nat.beq f 2 then [1,2,3,16] else []) else (
   bif Nat.beq f 3 then [1,2,3] else []))) else (
 bif Nat.blt f 6 then (
  bif Nat.blt f 5 then (
   bif Nat.beq f 4 then [1,2,3,7] else []) else (
   bif Nat.beq f 5 then [1,2,3,7] else [])) else (
  bif Nat.blt f 7 then (
   bif Nat.beq f 6 then [1,2,3,7] else []) else (
   bif Nat.beq f 7 then [2] else [])))
def ct115 (f : Nat) : Bool := false
def P115_0 (R : RT) (n0 ro rt : Nat) (t0 t1 t2 : AV) (s : Sto) (QR : QT) : Prop := Wp (env R) (LFE (env R) 115 n0 ro rt) 43 [.tmp 6] (sub b115 []) [] [(0,t0),(1,t1),(2,t2)] s QR
def P115_1 (R : RT) (n0 ro rt : Nat) (t1 t2 t3 : AV) (s : Sto) (QR : QT) : Prop := Wp (env R) (LFE (env R) 115 n0 ro rt) 43 [.tmp 6] (sub b115 [1,1]) [] [(1,t1),(2,t2),(3,t3)] s QR
def P115_2 (R : RT) (n0 ro rt : Nat) (t1 t2 t3 t7 : AV) (s : Sto) (QR : QT) : Prop := Wp (env R) (LFE (env R) 115 n0 ro rt) 43 [.tmp 6] (.loop (sub b115 [1,1,0,1,0,0])) [.blk 0,.seq (sub b115 [1,1,1])] [(1,t1),(2,t2),(3,t3),(7,t7)] s QR
def P115_3 (R : RT) (n0 ro rt : Nat) (t1 t2 t3 t7 : AV) (s : Sto) (QR : QT) : Prop := Wp (env R) (LFE (env R) 115 n0 ro rt) 43 [.tmp 6] (sub b115 [1,1,0,1,0,0,1]) [.loop (sub b115 [1,1,0,1,0,0]),.blk 0,.seq (sub b115 [1,1,1])] [(1,t1),(2,t2),(3,t3),(7,t7)] s QR
def P115_4 (R : RT) (n0 ro rt : Nat) (t2 : AV) (s : Sto) (QR : QT) : Prop := Wp (env R) (LFE (env R) 115 n0 ro rt) 43 [.tmp 6] (sub b115 [1,1,1]) [] [(2,t2)] s QR
def P115_5 (R : RT) (n0 ro rt : Nat) (t1 t2 t3 t7 : AV) (s : Sto) (QR : QT) : Prop := Wp (env R) (LFE (env R) 115 n0 ro rt) 43 [.tmp 6] (sub b115 [1,1,0,1,0,0,1,1]) [.loop (sub b115 [1,1,0,1,0,0]),.blk 0,.seq (sub b115 [1,1,1])] [(1,t1),(2,t2),(3,t3),(7,t7)] s QR
theorem p115_0 {R : RT} {n0 ro rt : Nat} {t0 t1 t2 : AV} {s : Sto} {QR : QT} (h :
 wBox s t0 fun a3 s1x0 =>
 wFad s1x0 a3 0 fun a8 =>
 wLd (env R) s1x0 none a8 fun a9 =>
 wInt .i64 .eql a9 (I64 5) fun a10 =>
 wGK a10 true s1x0 (fun K => wFad s1x0 a3 2 fun a12 => K a12 s1x0) fun a12x1 s1x2 =>
 wGK a10 true s1x2 (fun K => wLd (env R) s1x2 none a12x1 fun a13 => K a13 s1x2) fun a13x3 s1x4 =>
 wGK a10 true s1x4 (fun K => K t1 s1x4) fun a14 s1x5 =>
 wGK a10 true s1x5 (fun K => wInt .i64 .geq a13x3 a14 fun a15 => K a15 s1x5) fun a15x6 s1x7 =>
 wPick a10 a15x6 (BB false) fun a16 =>
 wCond a16 (
 wFad s1x7 a3 2 fun a18 =>
 wLd (env R) s1x7 none a18 fun a19 =>
 wInt .i64 .sub a19 t1 fun a21 =>
 wCall (env R) (LFE (env R) 115 n0 ro rt) (.func (.func 131) [] []) [t2,a21] s1x7 fun a22 s1x8 =>
 P115_1 R n0 ro rt t1 a22 a3 s1x8 QR) (
 P115_1 R n0 ro rt t1 t2 a3 s1x7 QR)) : P115_0 R n0 ro rt t0 t1 t2 s QR :=
  wpc_mp (lv := lv115) (ct := ct115) _ _ _ _ h (by kernel_rfl)
theorem p115_1 {R : RT} {n0 ro rt : Nat} {t1 t2 t3 : AV} {s : Sto} {QR : QT} (h :
 P115_2 R n0 ro rt t1 t2 t3 (I64 0) s QR) : P115_1 R n0 ro rt t1 t2 t3 s QR :=
  wpc_mp (lv := lv115) (ct := ct115) _ _ _ _ h (by kernel_rfl)
theorem p115_2 {R : RT} {n0 ro rt : Nat} {t1 t2 t3 t7 : AV} {s : Sto} {QR : QT} (h :
 wFad s t3 3 fun a24 =>
 wLd (env R) s none a24 fun a25 =>
 wLen s a25 fun a26 =>
 wInt .i64 .lss t7 a26 fun a27 =>
 wCond a27 (
 P115_3 R n0 ro rt t1 t2 t3 t7 s QR) (
 P115_4 R n0 ro rt t2 s QR)) : P115_2 R n0 ro rt t1 t2 t3 t7 s QR :=
  wpl_mp (lv := lv115) (ct := ct115) _ _ _ _ h (by kernel_rfl)
theorem p115_3 {R : RT} {n0 ro rt : Nat} {t1 t2 t3 t7 : AV} {s : Sto} {QR : QT} (h :
 wFad s t3 3 fun a30 =>
 wLd (env R) s none a30 fun a31 =>
 wIdx s 4 a31 t7 fun a33 =>
 wLd (env R) s (some 4) a33 fun a34 =>
 wLd (env R) s (some 4) t3 fun a36 =>
 wCall (env R) (LFE (env R) 115 n0 ro rt) (.func (.func 132) [] []) [a36,t7] s fun a38 s1x0 =>
 wInt .i64 .add t1 a38 fun a39 =>
 wCall (env R) (LFE (env R) 115 n0 ro rt) (.func (.func 115) [] []) [a34,a39,t2] s1x0 fun a41 s1x1 =>
(wFad s1x0 t3 3 fun v => eqA v a30 = true) ∧
(wLd (env R) s1x0 none a30 fun vx2 => eqA vx2 a31 = true) ∧
(wIdx s1x0 4 a31 t7 fun vx3 => eqA vx3 a33 = true) ∧
(wLd (env R) s1x0 (some 4) a33 fun vx4 => eqA vx4 a34 = true) ∧
 P115_5 R n0 ro rt t1 a41 t3 t7 s1x1 QR) : P115_3 R n0 ro rt t1 t2 t3 t7 s QR :=
  wpc_mp (lv := lv115) (ct := ct115) _ _ _ _ h (by kernel_rfl)
theorem p115_4 {R : RT} {n0 ro rt : Nat} {t2 : AV} {s : Sto} {QR : QT} (h :
 QR t2 s) : P115_4 R n0 ro rt t2 s QR :=
  wpc_mp (lv := lv115) (ct := ct115) _ _ _ _ h (by kernel_rfl)
theorem p115_5 {R : RT} {n0 ro rt : Nat} {t1 t2 t3 t7 : AV} {s : Sto} {QR : QT} (h :
 wInt .i64 .add t7 (I64 1) fun a29 =>
 P115_2 R n0 ro rt t1 t2 t3 a29 s QR) : P115_5 R n0 ro rt t1 t2 t3 t7 s QR :=
  wpc_mp (lv := lv115) (ct := ct115) _ _ _ _ h (by kernel_rfl)
theorem e115 {R : RT} {t0 t1 t2 : AV} {u0 u1 u2 : AV} {Post : AV → Prop} (hcl : closeL [] 0 0 [t0,t1,t2] = some [u0,u1,u2]) (h : P115_0 R 0 0 0 u0 u1 u2 ⟨[],[]⟩ (QP Post)) : PureC (env R) 115 [t0,t1,t2] Post :=
  call_rd (fn := Tryz.f115) (body := b115) Tryz.func115 (by kernel_rfl) (by kernel_rfl) (by kernel_rfl) (Nat.le_of_ble_eq_true (by kernel_rfl)) hcl (mpK h (by kernel_rfl))
/-! 131: telpher/telref1.insertInt -/
noncomputable def b131 : Code := Tryz.f131.body.getD .skip
def lv131 (f : Nat) : List Nat := bif Nat.blt f 4 then (
 bif Nat.blt f 2 then (
  bif Nat.beq f 1 then [0,1] else []) else (
  bif Nat.blt f 3 then (
   bif Nat.beq f 2 then [0,1,5] else []) else (
   bif Nat.beq f 3 then [0,1,5] else []))) else (
 bif Nat.blt f 5 then (
  bif Nat.beq f 4 then [0,1,5] else []) else (
  bif Nat.blt f 6 then (
   bif Nat.beq f 5 then [0,1,5,31] else []) else (
   bif Nat.beq f 6 then [0,1,5] else [])))
def ct131 (f : Nat) : Bool := false
def P131_0 (R : RT) (n0 ro rt : Nat) (t0 t1 : AV) (s : Sto) (QR : QT) : Prop := Wp (env R) (LFE (env R) 131 n0 ro rt) 45 [.tmp 4] (sub b131 []) [] [(0,t0),(1,t1)] s QR
def P131_1 (R : RT) (n0 ro rt : Nat) (t0 t1 t5 : AV) (s : Sto) (QR : QT) : Prop := Wp (env R) (LFE (env R) 131 n0 ro rt) 45 [.tmp 4] (.loop (sub b131 [1,1,0,0,0])) [.blk 0,.seq (sub b131 [1,1,1])] [(0,t0),(1,t1),(5,t5)] s QR
def P131_2 (R : RT) (n0 ro rt : Nat) (t0 t1 t5 : AV) (s : Sto) (QR : QT) : Prop := Wp (env R) (LFE (env R) 131 n0 ro rt) 45 [.tmp 4] (sub b131 [1,1,0,0,0,1]) [.loop (sub b131 [1,1,0,0,0]),.blk 0,.seq (sub b131 [1,1,1])] [(0,t0),(1,t1),(5,t5)] s QR
def P131_3 (R : RT) (n0 ro rt : Nat) (t0 t1 t5 : AV) (s : Sto) (QR : QT) : Prop := Wp (env R) (LFE (env R) 131 n0 ro rt) 45 [.tmp 4] (sub b131 [1,1,1]) [] [(0,t0),(1,t1),(5,t5)] s QR
def P131_4 (R : RT) (n0 ro rt : Nat) (t0 t1 t5 : AV) (s : Sto) (QR : QT) : Prop := Wp (env R) (LFE (env R) 131 n0 ro rt) 45 [.tmp 4] (sub b131 [1,1,1,1]) [] [(0,t0),(1,t1),(5,t5)] s QR
theorem p131_0 {R : RT} {n0 ro rt : Nat} {t0 t1 : AV} {s : Sto} {QR : QT} (h :
 P131_1 R n0 ro rt t0 t1 (I64 0) s QR) : P131_0 R n0 ro rt t0 t1 s QR :=
  wpc_mp (lv := lv131) (ct := ct131) _ _ _ _ h (by kernel_rfl)
theorem p131_1 {R : RT} {n0 ro rt : Nat} {t0 t1 t5 : AV} {s : Sto} {QR : QT} (h :
 wLen s t0 fun a8 =>
 wInt .i64 .lss t5 a8 fun a9 =>
 wGK a9 true s (fun K => K t0 s) fun a11 s1x0 =>
 wGK a9 true s1x0 (fun K => K t5 s1x0) fun a12 s1x1 =>
 wGK a9 true s1x1 (fun K => wIdx s1x1 1 a11 a12 fun a13 => K a13 s1x1) fun a13x2 s1x3 =>
 wGK a9 true s1x3 (fun K => wLd (env R) s1x3 none a13x2 fun a14 => K a14 s1x3) fun a14x4 s1x5 =>
 wGK a9 true s1x5 (fun K => K t1 s1x5) fun a15 s1x6 =>
 wGK a9 true s1x6 (fun K => wInt .i64 .lss a14x4 a15 fun a16 => K a16 s1x6) fun a16x7 s1x8 =>
 wPick a9 a16x7 (BB false) fun a17 =>
 wCond a17 (
 P131_2 R n0 ro rt t0 t1 t5 s1x8 QR) (
 P131_3 R n0 ro rt t0 t1 t5 s1x8 QR)) : P131_1 R n0 ro rt t0 t1 t5 s QR :=
  wpl_mp (lv := lv131) (ct := ct131) _ _ _ _ h (by kernel_rfl)
theorem p131_2 {R : RT} {n0 ro rt : Nat} {t0 t1 t5 : AV} {s : Sto} {QR : QT} (h :
 wInt .i64 .add t5 (I64 1) fun a19 =>
 P131_1 R n0 ro rt t0 t1 a19 s QR) : P131_2 R n0 ro rt t0 t1 t5 s QR :=
  wpc_mp (lv := lv131) (ct := ct131) _ _ _ _ h (by kernel_rfl)
theorem p131_3 {R : RT} {n0 ro rt : Nat} {t0 t1 t5 : AV} {s : Sto} {QR : QT} (h :
 wLen s t0 fun a22 =>
 wInt .i64 .lss t5 a22 fun a23 =>
 wGK a23 true s (fun K => K t0 s) fun a25 s1x0 =>
 wGK a23 true s1x0 (fun K => K t5 s1x0) fun a26 s1x1 =>
 wGK a23 true s1x1 (fun K => wIdx s1x1 1 a25 a26 fun a27 => K a27 s1x1) fun a27x2 s1x3 =>
 wGK a23 true s1x3 (fun K => wLd (env R) s1x3 none a27x2 fun a28 => K a28 s1x3) fun a28x4 s1x5 =>
 wGK a23 true s1x5 (fun K => K t1 s1x5) fun a29 s1x6 =>
 wGK a23 true s1x6 (fun K => wInt .i64 .eql a28x4 a29 fun a30 => K a30 s1x6) fun a30x7 s1x8 =>
 wPick a23 a30x7 (BB false) fun a31 =>
 wCond a31 (
 QR t0 s1x8) (
 P131_4 R n0 ro rt t0 t1 t5 s1x8 QR)) : P131_3 R n0 ro rt t0 t1 t5 s QR :=
  wpc_mp (lv := lv131) (ct := ct131) _ _ _ _ h (by kernel_rfl)
theorem p131_4 {R : RT} {n0 ro rt : Nat} {t0 t1 t5 : AV} {s : Sto} {QR : QT} (h :
 wBsl false s 1 [(I64 0)] 0 [] fun a33 s1x0 =>
 wSlc s 1 t0 none (some t5) none fun a36 =>
(1 = 1 ∧ 1 ≠ 0) ∧ wApp false (LFE (env R) 131 n0 ro rt) s 3 1 8 a33 a36 fun a37 s1x1 =>
 wBsl false s1x1 1 [(I64 0)] 1 [(0,1,t1)] fun a39 s1x2 =>
(1 = 1 ∧ 1 ≠ 0) ∧ wApp false (LFE (env R) 131 n0 ro rt) s1x1 3 1 8 a37 a39 fun a40 s1x3 =>
 wSlc s1x3 1 t0 (some t5) none none fun a43 =>
(1 = 1 ∧ 1 ≠ 0) ∧ wApp false (LFE (env R) 131 n0 ro rt) s1x3 3 1 8 a40 a43 fun a44 s1x4 =>
(wSlc s 1 t0 (some t5) none none fun v => eqA v a43 = true) ∧
(wSlc s1x1 1 t0 (some t5) none none fun vx5 => eqA vx5 a43 = true) ∧
 QR a44 s1x4) : P131_4 R n0 ro rt t0 t1 t5 s QR :=
  wpc_mp (lv := lv131) (ct := ct131) _ _ _ _ h (by kernel_rfl)
theorem e131 {R : RT} {t0 t1 : AV} {u0 u1 : AV} {Post : AV → Prop} (hcl : closeL [] 0 0 [t0,t1] = some [u0,u1]) (h : P131_0 R 0 0 0 u0 u1 ⟨[],[]⟩ (QP Post)) : PureC (env R) 131 [t0,t1] Post :=
  call_rd (fn := Tryz.f131) (body := b131) Tryz.func131 (by kernel_rfl) (by kernel_rfl) (by kernel_rfl) (Nat.le_of_ble_eq_true (by kernel_rfl)) hcl (mpK h (by kernel_rfl))
/-! 132: telpher/telref1.binders -/
noncomputable def b132 : Code := Tryz.f132.body.getD .skip
def lv132 (f : Nat) : List Nat := bif Nat.blt f 2 then (
 bif Nat.beq f 1 then [1,2] else []) else (
 bif Nat.blt f 3 then (
  bif Nat.beq f 2 then [11] else []) else (
  bif Nat.beq f 3 then [] else []))
def ct132 (f : Nat) : Bool := false
def P132_0 (R : RT) (n0 ro rt : Nat) (t0 t1 : AV) (s : Sto) (QR : QT) : Prop := Wp (env R) (LFE (env R) 132 n0 ro rt) 12 [.tmp 4] (sub b132 []) [] [(0,t0),(1,t1)] s QR
def P132_1 (R : RT) (n0 ro rt : Nat) (s : Sto) (QR : QT) : Prop := Wp (env R) (LFE (env R) 132 n0 ro rt) 12 [.tmp 4] (sub b132 [1,1]) [] [] s QR
theorem p132_0 {R : RT} {n0 ro rt : Nat} {t0 t1 : AV} {s : Sto} {QR : QT} (h :
 wBox s t0 fun a2 s1x0 =>
 wFad s1x0 a2 0 fun a5 =>
 wLd (env R) s1x0 none a5 fun a6 =>
 wInt .i64 .eql a6 (I64 6) fun a7 =>
 wGK a7 true s1x0 (fun K => K t1 s1x0) fun a9 s1x1 =>
 wGK a7 true s1x1 (fun K => wInt .i64 .eql a9 (I64 1) fun a10 => K a10 s1x1) fun a10x2 s1x3 =>
 wPick a7 a10x2 (BB false) fun a11 =>
 wCond a11 (
 QR (I64 1) s1x3) (
 P132_1 R n0 ro rt  s1x3 QR)) : P132_0 R n0 ro rt t0 t1 s QR :=
  wpc_mp (lv := lv132) (ct := ct132) _ _ _ _ h (by kernel_rfl)
theorem p132_1 {R : RT} {n0 ro rt : Nat} {s : Sto} {QR : QT} (h :
 QR (I64 0) s) : P132_1 R n0 ro rt  s QR :=
  wpc_mp (lv := lv132) (ct := ct132) _ _ _ _ h (by kernel_rfl)
theorem e132 {R : RT} {t0 t1 : AV} {u0 u1 : AV} {Post : AV → Prop} (hcl : closeL [] 0 0 [t0,t1] = some [u0,u1]) (h : P132_0 R 0 0 0 u0 u1 ⟨[],[]⟩ (QP Post)) : PureC (env R) 132 [t0,t1] Post :=
  call_rd (fn := Tryz.f132) (body := b132) Tryz.func132 (by kernel_rfl) (by kernel_rfl) (by kernel_rfl) (Nat.le_of_ble_eq_true (by kernel_rfl)) hcl (mpK h (by kernel_rfl))
/-! 94: telpher/telref1.isLetter -/
noncomputable def b94 : Code := Tryz.f94.body.getD .skip
def lv94 (f : Nat) : List Nat := bif Nat.beq f 1 then [0] else []
def ct94 (f : Nat) : Bool := false
def P94_0 (R : RT) (n0 ro rt : Nat) (t0 : AV) (s : Sto) (QR : QT) : Prop := Wp (env R) (LFE (env R) 94 n0 ro rt) 17 [.tmp 2] (sub b94 []) [] [(0,t0)] s QR
theorem p94_0 {R : RT} {n0 ro rt : Nat} {t0 : AV} {s : Sto} {QR : QT} (h :
 wInt .u8 .geq t0 (.pv (.sc (.int .u8 97))) fun a4 =>
 wGK a4 true s (fun K => K t0 s) fun a6 s1x0 =>
 wGK a4 true s1x0 (fun K => wInt .u8 .leq a6 (.pv (.sc (.int .u8 122))) fun a7 => K a7 s1x0) fun a7x1 s1x2 =>
 wPick a4 a7x1 (BB false) fun a8 =>
 wGK a8 false s1x2 (fun K => K t0 s1x2) fun a10 s1x3 =>
 wGK a8 false s1x3 (fun K => wInt .u8 .geq a10 (.pv (.sc (.int .u8 65))) fun a11 => K a11 s1x3) fun a11x4 s1x5 =>
 wGK a8 false s1x5 (fun K => K a11x4 s1x5) fun a12 s1x6 =>
 wGK a12 true s1x6 (fun K => K t0 s1x6) fun a13 s1x7 =>
 wGK a12 true s1x7 (fun K => wInt .u8 .leq a13 (.pv (.sc (.int .u8 90))) fun a14 => K a14 s1x7) fun a14x8 s1x9 =>
 wGK a8 false s1x9 (fun K => wPick a12 a14x8 (BB false) fun a15 => K a15 s1x9) fun a15x10 s1x11 =>
 wPick a8 (BB true) a15x10 fun a16 =>
 QR a16 s1x11) : P94_0 R n0 ro rt t0 s QR :=
  wpc_mp (lv := lv94) (ct := ct94) _ _ _ _ h (by kernel_rfl)
theorem e94 {R : RT} {t0 : AV} {u0 : AV} {Post : AV → Prop} (hcl : closeL [] 0 0 [t0] = some [u0]) (h : P94_0 R 0 0 0 u0 ⟨[],[]⟩ (QP Post)) : PureC (env R) 94 [t0] Post :=
  call_rd (fn := Tryz.f94) (body := b94) Tryz.func94 (by kernel_rfl) (by kernel_rfl) (by kernel_rfl) (Nat.le_of_ble_eq_true (by kernel_rfl)) hcl (mpK h (by kernel_rfl))
/-! 95: telpher/telref1.isWordByte -/
noncomputable def b95 : Code := Tryz.f95.body.getD .skip
def lv95 (f : Nat) : List Nat := bif Nat.beq f 1 then [0] else []
def ct95 (f : Nat) : Bool := false
def P95_0 (R : RT) (n0 ro rt : Nat) (t0 : AV) (s : Sto) (QR : QT) : Prop := Wp (env R) (LFE (env R) 95 n0 ro rt) 17 [.tmp 2] (sub b95 []) [] [(0,t0)] s QR
theorem p95_0 {R : RT} {n0 ro rt : Nat} {t0 : AV} {s : Sto} {QR : QT} (h :
 wCall (env R) (LFE (env R) 95 n0 ro rt) (.func (.func 94) [] []) [t0] s fun a4 s1x0 =>
 wGK a4 false s1x0 (fun K => K t0 s1x0) fun a6 s1x1 =>
 wGK a4 false s1x1 (fun K => wCall (env R) (LFE (env R) 95 n0 ro rt) (.func (.func 114) [] []) [a6] s1x1 fun a7 s1x2 => K a7 s1x2) fun a7x3 s1x4 =>
 wPick a4 (BB true) a7x3 fun a8 =>
 wGK a8 false s1x4 (fun K => K t0 s1x4) fun a10 s1x5 =>
 wGK a8 false s1x5 (fun K => wInt .u8 .eql a10 (.pv (.sc (.int .u8 95))) fun a11 => K a11 s1x5) fun a11x6 s1x7 =>
 wPick a8 (BB true) a11x6 fun a12 =>
 wGK a12 false s1x7 (fun K => K t0 s1x7) fun a14 s1x8 =>
 wGK a12 false s1x8 (fun K => wInt .u8 .eql a14 (.pv (.sc (.int .u8 45))) fun a15 => K a15 s1x8) fun a15x9 s1x10 =>
 wPick a12 (BB true) a15x9 fun a16 =>
 QR a16 s1x10) : P95_0 R n0 ro rt t0 s QR :=
  wpc_mp (lv := lv95) (ct := ct95) _ _ _ _ h (by kernel_rfl)
theorem e95 {R : RT} {t0 : AV} {u0 : AV} {Post : AV → Prop} (hcl : closeL [] 0 0 [t0] = some [u0]) (h : P95_0 R 0 0 0 u0 ⟨[],[]⟩ (QP Post)) : PureC (env R) 95 [t0] Post :=
  call_rd (fn := Tryz.f95) (body := b95) Tryz.func95 (by kernel_rfl) (by kernel_rfl) (by kernel_rfl) (Nat.le_of_ble_eq_true (by kernel_rfl)) hcl (mpK h (by kernel_rfl))
/-! 114: telpher/telref1.isDigit -/
noncomputable def b114 : Code := Tryz.f114.body.getD .skip
def lv114 (f : Nat) : List Nat := bif Nat.beq f 1 then [0] else []
def ct114 (f : Nat) : Bool := false
def P114_0 (R : RT) (n0 ro rt : Nat) (t0 : AV) (s : Sto) (QR : QT) : Prop := Wp (env R) (LFE (env R) 114 n0 ro rt) 9 [.tmp 2] (sub b114 []) [] [(0,t0)] s QR
theorem p114_0 {R : RT} {n0 ro rt : Nat} {t0 : AV} {s : Sto} {QR : QT} (h :
 wInt .u8 .geq t0 (.pv (.sc (.int .u8 48))) fun a4 =>
 wGK a4 true s (fun K => K t0 s) fun a6 s1x0 =>
 wGK a4 true s1x0 (fun K => wInt .u8 .leq a6 (.pv (.sc (.int .u8 57))) fun a7 => K a7 s1x0) fun a7x1 s1x2 =>
 wPick a4 a7x1 (BB false) fun a8 =>
 QR a8 s1x2) : P114_0 R n0 ro rt t0 s QR :=
  wpc_mp (lv := lv114) (ct := ct114) _ _ _ _ h (by kernel_rfl)
theorem e114 {R : RT} {t0 : AV} {u0 : AV} {Post : AV → Prop} (hcl : closeL [] 0 0 [t0] = some [u0]) (h : P114_0 R 0 0 0 u0 ⟨[],[]⟩ (QP Post)) : PureC (env R) 114 [t0] Post :=
  call_rd (fn := Tryz.f114) (body := b114) Tryz.func114 (by kernel_rfl) (by kernel_rfl) (by kernel_rfl) (Nat.le_of_ble_eq_true (by kernel_rfl)) hcl (mpK h (by kernel_rfl))
end Go.Proofs.YtmipbilokjkjiaaGreatDoor
