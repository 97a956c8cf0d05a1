/-
  What the points of some functions' code need: written by a program (wip/tel/GenW.lean.txt).
-/
import Derived.Test.YtmipbilokjkjiaaGreatDoorTab
import Derived.Test.YtmipbilokjkjiaaGreatDoorWvF
set_option linter.unusedSimpArgs false
set_option linter.unusedVariables false
namespace Go.Proofs.YtmipbilokjkjiaaGreatDoor
open Go.Tel
/-! 22: telpher/typetext.FromNode -/
noncomputable def b22 : Code := Tryz.f22.body.getD .skip
def lv22 (f : Nat) : List Nat := bif Nat.blt f 4 then (
 bif Nat.blt f 2 then (
  bif Nat.beq f 1 then [1,2,4,5] else []) else (
  bif Nat.blt f 3 then (
   bif Nat.beq f 2 then [2,4,5,6,7] else []) else (
   bif Nat.beq f 3 then [2,4,5,6,7,17] else []))) else (
 bif Nat.blt f 6 then (
  bif Nat.blt f 5 then (
   bif Nat.beq f 4 then [2,4,5,6] else []) else (
   bif Nat.beq f 5 then [2,4,5,6,8] else [])) else (
  bif Nat.blt f 7 then (
   bif Nat.beq f 6 then [2,4,5,6,8,23] else []) else (
   bif Nat.beq f 7 then [4,5,6] else [])))
def ct22 (f : Nat) : Bool := false
def P22_0 (R : RT) (n0 ro rt : Nat) (t0 t1 : AV) (s : Sto) (QR : QT) : Prop := Wp (env R) (LFE (env R) 22 n0 ro rt) 31 [.cell 4 25,.cell 5 35] (sub b22 []) [] [(0,t0),(1,t1)] s QR
def P22_1 (R : RT) (n0 ro rt : Nat) (t2 t4 t5 t6 : AV) (s : Sto) (QR : QT) : Prop := Wp (env R) (LFE (env R) 22 n0 ro rt) 31 [.cell 4 25,.cell 5 35] (sub b22 [1,1,1]) [] [(2,t2),(4,t4),(5,t5),(6,t6)] s QR
def P22_2 (R : RT) (n0 ro rt : Nat) (t4 t5 t6 : AV) (s : Sto) (QR : QT) : Prop := Wp (env R) (LFE (env R) 22 n0 ro rt) 31 [.cell 4 25,.cell 5 35] (sub b22 [1,1,1,1]) [] [(4,t4),(5,t5),(6,t6)] s QR
theorem p22_0 {R : RT} {n0 ro rt : Nat} {t0 t1 : AV} {s : Sto} {QR : QT} (h :
 wBox s t0 fun a2 s1x0 =>
 wNew s1x0 [(I64 0),(SS []),(I64 0),(.capped [])] fun a4 s1x1 =>
 wNew s1x1 [(I64 0),(I64 0)] fun a5 s1x2 =>
 wLd (env R) s1x2 (some 4) a2 fun a10 =>
 wCall (env R) (LFE (env R) 22 n0 ro rt) (.func (.func 46) [] []) [a10,t1] s1x2 fun a12 s1x3 =>
 wExt a12 0 fun a13 =>
 wExt a12 1 fun a14 =>
 wNew s1x3 [(I64 0),(SS []),(I64 0),(.capped [])] fun a6 s1x4 =>
 wNew s1x4 [(I64 0),(I64 0)] fun a7 s1x5 =>
 wSt (LFE (env R) 22 n0 ro rt) s1x5 4 a6 a13 fun s1x6 =>
 wSt (LFE (env R) 22 n0 ro rt) s1x6 2 a7 a14 fun s1x7 =>
 wFad s1x7 a7 0 fun a15 =>
 wLd (env R) s1x7 none a15 fun a16 =>
 wInt .i64 .neq a16 (I64 0) fun a17 =>
 wCond a17 (
 wBuild [(I64 0),(SS []),(I64 0),(.capped [])] [] fun a18 =>
 wLd (env R) s1x7 (some 2) a7 fun a19 =>
 wSt (LFE (env R) 22 n0 ro rt) s1x7 4 a4 a18 fun s1x8 =>
 wSt (LFE (env R) 22 n0 ro rt) s1x8 2 a5 a19 fun s1x9 =>
(wLd (env R) s1x8 (some 2) a7 fun v => eqA v a19 = true) ∧
 wLd (env R) s1x9 (some 4) a4 fun r =>
 wLd (env R) s1x9 (some 2) a5 fun rx10 =>
 QR (.tuple [r,rx10]) s1x9) (
 P22_1 R n0 ro rt a2 a4 a5 a6 s1x7 QR)) : P22_0 R n0 ro rt t0 t1 s QR :=
  wpc_mp (lv := lv22) (ct := ct22) _ _ _ _ h (by kernel_rfl)
theorem p22_1 {R : RT} {n0 ro rt : Nat} {t2 t4 t5 t6 : AV} {s : Sto} {QR : QT} (h :
 wLd (env R) s (some 4) t6 fun a20 =>
 wCall (env R) (LFE (env R) 22 n0 ro rt) (.func (.func 28) [] []) [a20] s fun a21 s1x0 =>
 wInt .i64 .neq a21 (I64 0) fun a23 =>
 wCond a23 (
 wBuild [(I64 0),(SS []),(I64 0),(.capped [])] [] fun a24 =>
 wFad s1x0 t2 3 fun a26 =>
 wLd (env R) s1x0 none a26 fun a27 =>
 wBuild [(I64 0),(I64 0)] [(0,1,a21),(1,1,a27)] fun a28 =>
 wSt (LFE (env R) 22 n0 ro rt) s1x0 4 t4 a24 fun s1x1 =>
 wSt (LFE (env R) 22 n0 ro rt) s1x1 2 t5 a28 fun s1x2 =>
(wFad s1x1 t2 3 fun v => eqA v a26 = true) ∧
(wLd (env R) s1x1 none a26 fun vx3 => eqA vx3 a27 = true) ∧
 wLd (env R) s1x2 (some 4) t4 fun r =>
 wLd (env R) s1x2 (some 2) t5 fun rx4 =>
 QR (.tuple [r,rx4]) s1x2) (
 P22_2 R n0 ro rt t4 t5 t6 s1x0 QR)) : P22_1 R n0 ro rt t2 t4 t5 t6 s QR :=
  wpc_mp (lv := lv22) (ct := ct22) _ _ _ _ h (by kernel_rfl)
theorem p22_2 {R : RT} {n0 ro rt : Nat} {t4 t5 t6 : AV} {s : Sto} {QR : QT} (h :
 wLd (env R) s (some 4) t6 fun a29 =>
 wBuild [(I64 0),(I64 0)] [] fun a30 =>
 wSt (LFE (env R) 22 n0 ro rt) s 4 t4 a29 fun s1x0 =>
 wSt (LFE (env R) 22 n0 ro rt) s1x0 2 t5 a30 fun s1x1 =>
 wLd (env R) s1x1 (some 4) t4 fun r =>
 wLd (env R) s1x1 (some 2) t5 fun rx2 =>
 QR (.tuple [r,rx2]) s1x1) : P22_2 R n0 ro rt t4 t5 t6 s QR :=
  wpc_mp (lv := lv22) (ct := ct22) _ _ _ _ h (by kernel_rfl)
theorem e22 {R : RT} {t0 t1 : AV} {u0 u1 : AV} {Post : AV → Prop} (hcl : closeL [] 0 0 [t0,t1] = some [u0,u1]) (h : P22_0 R 0 0 0 u0 u1 ⟨[],[]⟩ (QP Post)) : PureC (env R) 22 [t0,t1] Post :=
  call_rd (fn := Tryz.f22) (body := b22) Tryz.func22 (by kernel_rfl) (by kernel_rfl) (by kernel_rfl) (Nat.le_of_ble_eq_true (by kernel_rfl)) hcl (mpK h (by kernel_rfl))
/-! 46: telpher/typetext.term -/
noncomputable def b46 : Code := Tryz.f46.body.getD .skip
def lv46 (f : Nat) : List Nat := bif Nat.blt f 3 then (
 bif Nat.blt f 2 then (
  bif Nat.beq f 1 then [1,2,4,5] else []) else (
  bif Nat.beq f 2 then [1,2,4,5,7] else [])) else (
 bif Nat.blt f 5 then (
  bif Nat.beq f 3 then [1,2,4,5,7,8] else []) else (
  bif Nat.blt f 6 then (
   bif Nat.beq f 5 then [1,2,4,5,15] else []) else (
   bif Nat.beq f 6 then [2,4,5] else [])))
def ct46 (f : Nat) : Bool := false
def P46_0 (R : RT) (n0 ro rt : Nat) (t0 t1 : AV) (s : Sto) (QR : QT) : Prop := Wp (env R) (LFE (env R) 46 n0 ro rt) 25 [.cell 4 25,.cell 5 35] (sub b46 []) [] [(0,t0),(1,t1)] s QR
def P46_1 (R : RT) (n0 ro rt : Nat) (t2 t4 t5 : AV) (s : Sto) (QR : QT) : Prop := Wp (env R) (LFE (env R) 46 n0 ro rt) 25 [.cell 4 25,.cell 5 35] (sub b46 [1,1]) [] [(2,t2),(4,t4),(5,t5)] s QR
theorem p46_0 {R : RT} {n0 ro rt : Nat} {t0 t1 : AV} {s : Sto} {QR : QT} (h :
 wBox s t0 fun a2 s1x0 =>
 wNew s1x0 [(I64 0),(SS []),(I64 0),(.capped [])] fun a4 s1x1 =>
 wNew s1x1 [(I64 0),(I64 0)] fun a5 s1x2 =>
 wFad s1x2 a2 0 fun a6 =>
 wLd (env R) s1x2 none a6 fun a7 =>
 wInt .i64 .eql a7 (I64 1) fun a9 =>
 wCond a9 (
 wLd (env R) s1x2 (some 4) a2 fun a10 =>
 wCall (env R) (LFE (env R) 46 n0 ro rt) (.func (.func 72) [] []) [a10,t1] s1x2 fun a12 s1x3 =>
 wExt a12 0 fun a13 =>
 wExt a12 1 fun a14 =>
 wSt (LFE (env R) 46 n0 ro rt) s1x3 4 a4 a13 fun s1x4 =>
 wSt (LFE (env R) 46 n0 ro rt) s1x4 2 a5 a14 fun s1x5 =>
 wLd (env R) s1x5 (some 4) a4 fun r =>
 wLd (env R) s1x5 (some 2) a5 fun rx6 =>
 QR (.tuple [r,rx6]) s1x5) (
 wInt .i64 .eql a7 (I64 3) fun a16 =>
 wCond a16 (
 wLd (env R) s1x2 (some 4) a2 fun a17 =>
 wCall (env R) (LFE (env R) 46 n0 ro rt) (.func (.func 73) [] []) [a17,t1] s1x2 fun a19 s1x7 =>
 wExt a19 0 fun a20 =>
 wExt a19 1 fun a21 =>
 wSt (LFE (env R) 46 n0 ro rt) s1x7 4 a4 a20 fun s1x8 =>
 wSt (LFE (env R) 46 n0 ro rt) s1x8 2 a5 a21 fun s1x9 =>
 wLd (env R) s1x9 (some 4) a4 fun rx10 =>
 wLd (env R) s1x9 (some 2) a5 fun rx11 =>
 QR (.tuple [rx10,rx11]) s1x9) (
 P46_1 R n0 ro rt a2 a4 a5 s1x2 QR))) : P46_0 R n0 ro rt t0 t1 s QR :=
  wpc_mp (lv := lv46) (ct := ct46) _ _ _ _ h (by kernel_rfl)
theorem p46_1 {R : RT} {n0 ro rt : Nat} {t2 t4 t5 : AV} {s : Sto} {QR : QT} (h :
 wBuild [(I64 0),(SS []),(I64 0),(.capped [])] [] fun a22 =>
 wLd (env R) s (some 4) t2 fun a23 =>
 wCall (env R) (LFE (env R) 46 n0 ro rt) (.func (.func 74) [] []) [a23] s fun a24 s1x0 =>
 wSt (LFE (env R) 46 n0 ro rt) s1x0 4 t4 a22 fun s1x1 =>
 wSt (LFE (env R) 46 n0 ro rt) s1x1 2 t5 a24 fun s1x2 =>
 wLd (env R) s1x2 (some 4) t4 fun r =>
 wLd (env R) s1x2 (some 2) t5 fun rx3 =>
 QR (.tuple [r,rx3]) s1x2) : P46_1 R n0 ro rt t2 t4 t5 s QR :=
  wpc_mp (lv := lv46) (ct := ct46) _ _ _ _ h (by kernel_rfl)
theorem e46 {R : RT} {t0 t1 : AV} {u0 u1 : AV} {Post : AV → Prop} (hcl : closeL [] 0 0 [t0,t1] = some [u0,u1]) (h : P46_0 R 0 0 0 u0 u1 ⟨[],[]⟩ (QP Post)) : PureC (env R) 46 [t0,t1] Post :=
  call_rd (fn := Tryz.f46) (body := b46) Tryz.func46 (by kernel_rfl) (by kernel_rfl) (by kernel_rfl) (Nat.le_of_ble_eq_true (by kernel_rfl)) hcl (mpK h (by kernel_rfl))
/-! 73: telpher/typetext.list -/
noncomputable def b73 : Code := Tryz.f73.body.getD .skip
def lv73 (f : Nat) : List Nat := bif Nat.blt f 15 then (
 bif Nat.blt f 6 then (
  bif Nat.blt f 3 then (
   bif Nat.blt f 2 then (
    bif Nat.beq f 1 then [1,2,4,5] else []) else (
    bif Nat.beq f 2 then [1,2,4,5,24] else [])) else (
   bif Nat.blt f 4 then (
    bif Nat.beq f 3 then [1,2,4,5] else []) else (
    bif Nat.beq f 4 then [1,2,4,5,6,7] else []))) else (
  bif Nat.blt f 9 then (
   bif Nat.blt f 7 then (
    bif Nat.beq f 6 then [1,2,4,5,6,7,8] else []) else (
    bif Nat.beq f 7 then [1,2,4,5,6,7,8,39] else [])) else (
   bif Nat.blt f 11 then (
    bif Nat.beq f 9 then [1,2,4,5,6,7,8,48] else []) else (
    bif Nat.blt f 13 then (
     bif Nat.beq f 11 then [1,2,4,5,6,7,8,53] else []) else (
     bif Nat.beq f 13 then [1,2,4,5,6,7,8,63] else []))))) else (
 bif Nat.blt f 20 then (
  bif Nat.blt f 17 then (
   bif Nat.blt f 16 then (
    bif Nat.beq f 15 then [1,4,5,6,7,8,75] else []) else (
    bif Nat.beq f 16 then [1,4,5,7,8] else [])) else (
   bif Nat.blt f 18 then (
    bif Nat.beq f 17 then [1,4,5,8,82,83,84] else []) else (
    bif Nat.blt f 19 then (
     bif Nat.beq f 18 then [1,4,5,8,82,83,84,85] else []) else (
     bif Nat.beq f 19 then [1,4,5,8,10,82,83,84] else [])))) else (
  bif Nat.blt f 22 then (
   bif Nat.blt f 21 then (
    bif Nat.beq f 20 then [1,4,5,8,11,12,82,83,84] else []) else (
    bif Nat.beq f 21 then [1,4,5,8,11,12,82,83,84,96] else [])) else (
   bif Nat.blt f 23 then (
    bif Nat.beq f 22 then [1,4,5,8,11,82,83,84] else []) else (
    bif Nat.blt f 24 then (
     bif Nat.beq f 23 then [1,4,5,8,82,83,84] else []) else (
     bif Nat.beq f 24 then [4,5,8] else [])))))
def ct73 (f : Nat) : Bool := false
def P73_0 (R : RT) (n0 ro rt : Nat) (t0 t1 : AV) (s : Sto) (QR : QT) : Prop := Wp (env R) (LFE (env R) 73 n0 ro rt) 108 [.cell 4 25,.cell 5 35] (sub b73 []) [] [(0,t0),(1,t1)] s QR
def P73_1 (R : RT) (n0 ro rt : Nat) (t1 t2 t4 t5 : AV) (s : Sto) (QR : QT) : Prop := Wp (env R) (LFE (env R) 73 n0 ro rt) 108 [.cell 4 25,.cell 5 35] (sub b73 [1,1]) [] [(1,t1),(2,t2),(4,t4),(5,t5)] s QR
def P73_2 (R : RT) (n0 ro rt : Nat) (t1 t4 t5 t7 t8 : AV) (s : Sto) (QR : QT) : Prop := Wp (env R) (LFE (env R) 73 n0 ro rt) 108 [.cell 4 25,.cell 5 35] (sub b73 [1,1,1,1,1]) [] [(1,t1),(4,t4),(5,t5),(7,t7),(8,t8)] s QR
def P73_3 (R : RT) (n0 ro rt : Nat) (t1 t4 t5 t8 t82 t83 t84 : AV) (s : Sto) (QR : QT) : Prop := Wp (env R) (LFE (env R) 73 n0 ro rt) 108 [.cell 4 25,.cell 5 35] (.loop (sub b73 [1,1,1,1,1,0,1,0,0])) [.blk 1,.seq (sub b73 [1,1,1,1,1,1])] [(1,t1),(4,t4),(5,t5),(8,t8),(82,t82),(83,t83),(84,t84)] s QR
def P73_4 (R : RT) (n0 ro rt : Nat) (t1 t4 t5 t8 t82 t83 t84 t85 : AV) (s : Sto) (QR : QT) : Prop := Wp (env R) (LFE (env R) 73 n0 ro rt) 108 [.cell 4 25,.cell 5 35] (sub b73 [1,1,1,1,1,0,1,0,0,1,1]) [.loop (sub b73 [1,1,1,1,1,0,1,0,0]),.blk 1,.seq (sub b73 [1,1,1,1,1,1])] [(1,t1),(4,t4),(5,t5),(8,t8),(82,t82),(83,t83),(84,t84),(85,t85)] s QR
def P73_5 (R : RT) (n0 ro rt : Nat) (t4 t5 t8 : AV) (s : Sto) (QR : QT) : Prop := Wp (env R) (LFE (env R) 73 n0 ro rt) 108 [.cell 4 25,.cell 5 35] (sub b73 [1,1,1,1,1,1]) [] [(4,t4),(5,t5),(8,t8)] s QR
def P73_6 (R : RT) (n0 ro rt : Nat) (t1 t4 t5 t8 t11 t82 t83 t84 : AV) (s : Sto) (QR : QT) : Prop := Wp (env R) (LFE (env R) 73 n0 ro rt) 108 [.cell 4 25,.cell 5 35] (sub b73 [1,1,1,1,1,0,1,0,0,1,1,0,0,1,1,1]) [.blk 2,.seq (sub b73 [1,1,1,1,1,0,1,0,0,1,1,1]),.loop (sub b73 [1,1,1,1,1,0,1,0,0]),.blk 1,.seq (sub b73 [1,1,1,1,1,1])] [(1,t1),(4,t4),(5,t5),(8,t8),(11,t11),(82,t82),(83,t83),(84,t84)] s QR
def P73_7 (R : RT) (n0 ro rt : Nat) (t1 t4 t5 t8 t82 t83 t84 : AV) (s : Sto) (QR : QT) : Prop := Wp (env R) (LFE (env R) 73 n0 ro rt) 108 [.cell 4 25,.cell 5 35] (sub b73 [1,1,1,1,1,0,1,0,0,1,1,1]) [.loop (sub b73 [1,1,1,1,1,0,1,0,0]),.blk 1,.seq (sub b73 [1,1,1,1,1,1])] [(1,t1),(4,t4),(5,t5),(8,t8),(82,t82),(83,t83),(84,t84)] s QR
theorem p73_0 {R : RT} {n0 ro rt : Nat} {t0 t1 : AV} {s : Sto} {QR : QT} (h :
 wBox s t0 fun a2 s1x0 =>
 wNew s1x0 [(I64 0),(SS []),(I64 0),(.capped [])] fun a4 s1x1 =>
 wNew s1x1 [(I64 0),(I64 0)] fun a5 s1x2 =>
 wFad s1x2 a2 2 fun a13 =>
 wLd (env R) s1x2 none a13 fun a14 =>
 wLen s1x2 a14 fun a15 =>
 wInt .i64 .eql a15 (I64 0) fun a16 =>
 wGK a16 false s1x2 (fun K => wFad s1x2 a2 2 fun a18 => K a18 s1x2) fun a18x3 s1x4 =>
 wGK a16 false s1x4 (fun K => wLd (env R) s1x4 none a18x3 fun a19 => K a19 s1x4) fun a19x5 s1x6 =>
 wGK a16 false s1x6 (fun K => wIdx s1x6 4 a19x5 (I64 0) fun a20 => K a20 s1x6) fun a20x7 s1x8 =>
 wGK a16 false s1x8 (fun K => wFad s1x8 a20x7 0 fun a21 => K a21 s1x8) fun a21x9 s1x10 =>
 wGK a16 false s1x10 (fun K => wLd (env R) s1x10 none a21x9 fun a22 => K a22 s1x10) fun a22x11 s1x12 =>
 wGK a16 false s1x12 (fun K => wInt .i64 .neq a22x11 (I64 1) fun a23 => K a23 s1x12) fun a23x13 s1x14 =>
 wPick a16 (BB true) a23x13 fun a24 =>
 wCond a24 (
 wBuild [(I64 0),(SS []),(I64 0),(.capped [])] [] fun a25 =>
 wLd (env R) s1x14 (some 4) a2 fun a26 =>
 wCall (env R) (LFE (env R) 73 n0 ro rt) (.func (.func 74) [] []) [a26] s1x14 fun a27 s1x15 =>
 wSt (LFE (env R) 73 n0 ro rt) s1x15 4 a4 a25 fun s1x16 =>
 wSt (LFE (env R) 73 n0 ro rt) s1x16 2 a5 a27 fun s1x17 =>
 wLd (env R) s1x17 (some 4) a4 fun r =>
 wLd (env R) s1x17 (some 2) a5 fun rx18 =>
 QR (.tuple [r,rx18]) s1x17) (
 P73_1 R n0 ro rt t1 a2 a4 a5 s1x14 QR)) : P73_0 R n0 ro rt t0 t1 s QR :=
  wpc_mp (lv := lv73) (ct := ct73) _ _ _ _ h (by kernel_rfl)
theorem p73_1 {R : RT} {n0 ro rt : Nat} {t1 t2 t4 t5 : AV} {s : Sto} {QR : QT} (h :
 wFad s t2 2 fun a28 =>
 wLd (env R) s none a28 fun a29 =>
 wIdx s 4 a29 (I64 0) fun a30 =>
 wLd (env R) s (some 4) a30 fun a31 =>
 wFad s t2 2 fun a32 =>
 wLd (env R) s none a32 fun a33 =>
 wSlc s 4 a33 (some (I64 1)) none none fun a34 =>
 wNew s [(I64 0),(SS []),(.capped []),(I64 0)] fun a6 s1x0 =>
 wSt (LFE (env R) 73 n0 ro rt) s1x0 4 a6 a31 fun s1x1 =>
(wFad s1x0 t2 2 fun v => eqA v a28 = true) ∧
(wLd (env R) s1x0 none a28 fun vx2 => eqA vx2 a29 = true) ∧
(wIdx s1x0 4 a29 (I64 0) fun vx3 => eqA vx3 a30 = true) ∧
(wLd (env R) s1x0 (some 4) a30 fun vx4 => eqA vx4 a31 = true) ∧
(wFad s1x0 t2 2 fun vx5 => eqA vx5 a32 = true) ∧
(wFad s1x1 t2 2 fun vx6 => eqA vx6 a32 = true) ∧
(wLd (env R) s1x0 none a32 fun vx7 => eqA vx7 a33 = true) ∧
(wLd (env R) s1x1 none a32 fun vx8 => eqA vx8 a33 = true) ∧
(wSlc s1x0 4 a33 (some (I64 1)) none none fun vx9 => eqA vx9 a34 = true) ∧
(wSlc s1x1 4 a33 (some (I64 1)) none none fun vx10 => eqA vx10 a34 = true) ∧
 wNew s1x1 [(I64 0),(SS []),(I64 0),(.capped [])] fun a8 s1x11 =>
 wFad s1x11 a6 1 fun a40 =>
 wLd (env R) s1x11 none a40 fun a41 =>
 wStr .eql a41 (SS [101,120,105,115,116,115]) fun a42 =>
 wCond a42 (
 wLd (env R) s1x11 (some 4) t2 fun a43 =>
 wCall (env R) (LFE (env R) 73 n0 ro rt) (.func (.func 99) [] []) [a43,t1] s1x11 fun a45 s1x12 =>
 wExt a45 0 fun a46 =>
 wExt a45 1 fun a47 =>
 wSt (LFE (env R) 73 n0 ro rt) s1x12 4 t4 a46 fun s1x13 =>
 wSt (LFE (env R) 73 n0 ro rt) s1x13 2 t5 a47 fun s1x14 =>
 wLd (env R) s1x14 (some 4) t4 fun r =>
 wLd (env R) s1x14 (some 2) t5 fun rx15 =>
 QR (.tuple [r,rx15]) s1x14) (
 wFad s1x11 a6 1 fun a49 =>
 wLd (env R) s1x11 none a49 fun a50 =>
 wStr .eql a50 (SS [116,117,112,108,101]) fun a51 =>
 wCond a51 (
 wFad s1x11 a8 0 fun a52 =>
 wSt (LFE (env R) 73 n0 ro rt) s1x11 1 a52 (I64 3) fun s1x16 =>
 P73_2 R n0 ro rt t1 t4 t5 a34 a8 s1x16 QR) (
 wFad s1x11 a6 1 fun a54 =>
 wLd (env R) s1x11 none a54 fun a55 =>
 wStr .eql a55 (SS [117,110,105,111,110]) fun a56 =>
 wGK a56 true s1x11 (fun K => K a34 s1x11) fun a58 s1x17 =>
 wGK a56 true s1x17 (fun K => wLen s1x17 a58 fun a59 => K a59 s1x17) fun a59x18 s1x19 =>
 wGK a56 true s1x19 (fun K => wInt .i64 .geq a59x18 (I64 2) fun a60 => K a60 s1x19) fun a60x20 s1x21 =>
 wPick a56 a60x20 (BB false) fun a61 =>
 wCond a61 (
 wFad s1x21 a8 0 fun a62 =>
 wSt (LFE (env R) 73 n0 ro rt) s1x21 1 a62 (I64 4) fun s1x22 =>
 P73_2 R n0 ro rt t1 t4 t5 a34 a8 s1x22 QR) (
 wFad s1x21 a6 1 fun a64 =>
 wLd (env R) s1x21 none a64 fun a65 =>
 wStr .eql a65 (SS [117,110,105,111,110]) fun a66 =>
 wGK a66 false s1x21 (fun K => K a34 s1x21) fun a68 s1x23 =>
 wGK a66 false s1x23 (fun K => wLen s1x23 a68 fun a69 => K a69 s1x23) fun a69x24 s1x25 =>
 wGK a66 false s1x25 (fun K => wInt .i64 .eql a69x24 (I64 0) fun a70 => K a70 s1x25) fun a70x26 s1x27 =>
 wPick a66 (BB true) a70x26 fun a71 =>
 wCond a71 (
 wBuild [(I64 0),(SS []),(I64 0),(.capped [])] [] fun a72 =>
 wLd (env R) s1x27 (some 4) t2 fun a73 =>
 wCall (env R) (LFE (env R) 73 n0 ro rt) (.func (.func 74) [] []) [a73] s1x27 fun a74 s1x28 =>
 wSt (LFE (env R) 73 n0 ro rt) s1x28 4 t4 a72 fun s1x29 =>
 wSt (LFE (env R) 73 n0 ro rt) s1x29 2 t5 a74 fun s1x30 =>
 wLd (env R) s1x30 (some 4) t4 fun rx31 =>
 wLd (env R) s1x30 (some 2) t5 fun rx32 =>
 QR (.tuple [rx31,rx32]) s1x30) (
 wLd (env R) s1x27 (some 4) a6 fun a76 =>
 wCall (env R) (LFE (env R) 73 n0 ro rt) (.func (.func 98) [] []) [a76] s1x27 fun a77 s1x33 =>
 wNot a77 fun a78 =>
 wCond a78 (
 wBuild [(I64 0),(SS []),(I64 0),(.capped [])] [] fun a79 =>
 wLd (env R) s1x33 (some 4) a6 fun a80 =>
 wCall (env R) (LFE (env R) 73 n0 ro rt) (.func (.func 74) [] []) [a80] s1x33 fun a81 s1x34 =>
 wSt (LFE (env R) 73 n0 ro rt) s1x34 4 t4 a79 fun s1x35 =>
 wSt (LFE (env R) 73 n0 ro rt) s1x35 2 t5 a81 fun s1x36 =>
 wLd (env R) s1x36 (some 4) t4 fun rx37 =>
 wLd (env R) s1x36 (some 2) t5 fun rx38 =>
 QR (.tuple [rx37,rx38]) s1x36) (
 wFad s1x33 a6 1 fun a35 =>
 wLd (env R) s1x33 none a35 fun a36 =>
 wFad s1x33 a8 0 fun a37 =>
 wSt (LFE (env R) 73 n0 ro rt) s1x33 1 a37 (I64 2) fun s1x39 =>
 wFad s1x39 a8 1 fun a38 =>
 wSt (LFE (env R) 73 n0 ro rt) s1x39 1 a38 a36 fun s1x40 =>
(wFad s1x39 a6 1 fun vx41 => eqA vx41 a35 = true) ∧
(wLd (env R) s1x39 none a35 fun vx42 => eqA vx42 a36 = true) ∧
 P73_2 R n0 ro rt t1 t4 t5 a34 a8 s1x40 QR)))))) : P73_1 R n0 ro rt t1 t2 t4 t5 s QR :=
  wpc_mp (lv := lv73) (ct := ct73) _ _ _ _ h (by kernel_rfl)
theorem p73_2 {R : RT} {n0 ro rt : Nat} {t1 t4 t5 t7 t8 : AV} {s : Sto} {QR : QT} (h :
 wLen s t7 fun a83 =>
 P73_3 R n0 ro rt t1 t4 t5 t8 t7 a83 (I64 0) s QR) : P73_2 R n0 ro rt t1 t4 t5 t7 t8 s QR :=
  wpc_mp (lv := lv73) (ct := ct73) _ _ _ _ h (by kernel_rfl)
theorem p73_3 {R : RT} {n0 ro rt : Nat} {t1 t4 t5 t8 t82 t83 t84 : AV} {s : Sto} {QR : QT} (h :
 wInt .i64 .lss t84 t83 fun a85 =>
 wCond a85 (
 P73_4 R n0 ro rt t1 t4 t5 t8 t82 t83 t84 a85 s QR) (
 P73_5 R n0 ro rt t4 t5 t8 s QR)) : P73_3 R n0 ro rt t1 t4 t5 t8 t82 t83 t84 s QR :=
  wpl_mp (lv := lv73) (ct := ct73) _ _ _ _ h (by kernel_rfl)
theorem p73_4 {R : RT} {n0 ro rt : Nat} {t1 t4 t5 t8 t82 t83 t84 t85 : AV} {s : Sto} {QR : QT} (h :
 wIdx s 4 t82 t84 fun a86 =>
 wLd (env R) s (some 4) a86 fun a87 =>
 wNew s [(I64 0),(SS []),(.capped []),(I64 0)] fun a10 s1x0 =>
 wSt (LFE (env R) 73 n0 ro rt) s1x0 4 a10 a87 fun s1x1 =>
 wLd (env R) s1x1 (some 4) a10 fun a89 =>
 wCall (env R) (LFE (env R) 73 n0 ro rt) (.func (.func 46) [] []) [a89,t1] s1x1 fun a91 s1x2 =>
 wExt a91 0 fun a92 =>
 wExt a91 1 fun a93 =>
 wNew s1x2 [(I64 0),(SS []),(I64 0),(.capped [])] fun a11 s1x3 =>
 wNew s1x3 [(I64 0),(I64 0)] fun a12 s1x4 =>
 wSt (LFE (env R) 73 n0 ro rt) s1x4 4 a11 a92 fun s1x5 =>
 wSt (LFE (env R) 73 n0 ro rt) s1x5 2 a12 a93 fun s1x6 =>
 wFad s1x6 a12 0 fun a94 =>
 wLd (env R) s1x6 none a94 fun a95 =>
 wInt .i64 .neq a95 (I64 0) fun a96 =>
 wCond a96 (
 wBuild [(I64 0),(SS []),(I64 0),(.capped [])] [] fun a97 =>
 wLd (env R) s1x6 (some 2) a12 fun a98 =>
 wSt (LFE (env R) 73 n0 ro rt) s1x6 4 t4 a97 fun s1x7 =>
 wSt (LFE (env R) 73 n0 ro rt) s1x7 2 t5 a98 fun s1x8 =>
(wLd (env R) s1x7 (some 2) a12 fun v => eqA v a98 = true) ∧
 wLd (env R) s1x8 (some 4) t4 fun r =>
 wLd (env R) s1x8 (some 2) t5 fun rx9 =>
 QR (.tuple [r,rx9]) s1x8) (
 P73_6 R n0 ro rt t1 t4 t5 t8 a11 t82 t83 t84 s1x6 QR)) : P73_4 R n0 ro rt t1 t4 t5 t8 t82 t83 t84 t85 s QR :=
  wpc_mp (lv := lv73) (ct := ct73) _ _ _ _ h (by kernel_rfl)
theorem p73_5 {R : RT} {n0 ro rt : Nat} {t4 t5 t8 : AV} {s : Sto} {QR : QT} (h :
 wLd (env R) s (some 4) t8 fun a106 =>
 wBuild [(I64 0),(I64 0)] [] fun a107 =>
 wSt (LFE (env R) 73 n0 ro rt) s 4 t4 a106 fun s1x0 =>
 wSt (LFE (env R) 73 n0 ro rt) s1x0 2 t5 a107 fun s1x1 =>
 wLd (env R) s1x1 (some 4) t4 fun r =>
 wLd (env R) s1x1 (some 2) t5 fun rx2 =>
 QR (.tuple [r,rx2]) s1x1) : P73_5 R n0 ro rt t4 t5 t8 s QR :=
  wpc_mp (lv := lv73) (ct := ct73) _ _ _ _ h (by kernel_rfl)
theorem p73_6 {R : RT} {n0 ro rt : Nat} {t1 t4 t5 t8 t11 t82 t83 t84 : AV} {s : Sto} {QR : QT} (h :
 wFad s t8 3 fun a99 =>
 wLd (env R) s none a99 fun a100 =>
 wLd (env R) s (some 4) t11 fun a101 =>
 wBsl false s 4 [(I64 0),(SS []),(I64 0),(.capped [])] 1 [(0,4,a101)] fun a102 s1x0 =>
(4 = 4 ∧ 4 ≠ 0) ∧ wApp false (LFE (env R) 73 n0 ro rt) s1x0 25 4 56 a100 a102 fun a103 s1x1 =>
 wFad s1x1 t8 3 fun a104 =>
 wSt (LFE (env R) 73 n0 ro rt) s1x1 1 a104 a103 fun s1x2 =>
 P73_7 R n0 ro rt t1 t4 t5 t8 t82 t83 t84 s1x2 QR) : P73_6 R n0 ro rt t1 t4 t5 t8 t11 t82 t83 t84 s QR :=
  wpc_mp (lv := lv73) (ct := ct73) _ _ _ _ h (by kernel_rfl)
theorem p73_7 {R : RT} {n0 ro rt : Nat} {t1 t4 t5 t8 t82 t83 t84 : AV} {s : Sto} {QR : QT} (h :
 wInt .i64 .add t84 (I64 1) fun a105 =>
 P73_3 R n0 ro rt t1 t4 t5 t8 t82 t83 a105 s QR) : P73_7 R n0 ro rt t1 t4 t5 t8 t82 t83 t84 s QR :=
  wpc_mp (lv := lv73) (ct := ct73) _ _ _ _ h (by kernel_rfl)
theorem e73 {R : RT} {t0 t1 : AV} {u0 u1 : AV} {Post : AV → Prop} (hcl : closeL [] 0 0 [t0,t1] = some [u0,u1]) (h : P73_0 R 0 0 0 u0 u1 ⟨[],[]⟩ (QP Post)) : PureC (env R) 73 [t0,t1] Post :=
  call_rd (fn := Tryz.f73) (body := b73) Tryz.func73 (by kernel_rfl) (by kernel_rfl) (by kernel_rfl) (Nat.le_of_ble_eq_true (by kernel_rfl)) hcl (mpK h (by kernel_rfl))
/-! 74: telpher/typetext.invalid -/
noncomputable def b74 : Code := Tryz.f74.body.getD .skip
def lv74 (f : Nat) : List Nat := bif Nat.beq f 1 then [1,2] else []
def ct74 (f : Nat) : Bool := false
def P74_0 (R : RT) (n0 ro rt : Nat) (t0 : AV) (s : Sto) (QR : QT) : Prop := Wp (env R) (LFE (env R) 74 n0 ro rt) 6 [.cell 2 35] (sub b74 []) [] [(0,t0)] s QR
theorem p74_0 {R : RT} {n0 ro rt : Nat} {t0 : AV} {s : Sto} {QR : QT} (h :
 wBox s t0 fun a1 s1x0 =>
 wNew s1x0 [(I64 0),(I64 0)] fun a2 s1x1 =>
 wFad s1x1 a1 3 fun a3 =>
 wLd (env R) s1x1 none a3 fun a4 =>
 wBuild [(I64 0),(I64 0)] [(0,1,(I64 2)),(1,1,a4)] fun a5 =>
 wSt (LFE (env R) 74 n0 ro rt) s1x1 2 a2 a5 fun s1x2 =>
 wLd (env R) s1x2 (some 2) a2 fun r =>
 QR r s1x2) : P74_0 R n0 ro rt t0 s QR :=
  wpc_mp (lv := lv74) (ct := ct74) _ _ _ _ h (by kernel_rfl)
theorem e74 {R : RT} {t0 : AV} {u0 : AV} {Post : AV → Prop} (hcl : closeL [] 0 0 [t0] = some [u0]) (h : P74_0 R 0 0 0 u0 ⟨[],[]⟩ (QP Post)) : PureC (env R) 74 [t0] Post :=
  call_rd (fn := Tryz.f74) (body := b74) Tryz.func74 (by kernel_rfl) (by kernel_rfl) (by kernel_rfl) (Nat.le_of_ble_eq_true (by kernel_rfl)) hcl (mpK h (by kernel_rfl))
/-! 98: telpher/typetext.isName -/
noncomputable def b98 : Code := Tryz.f98.body.getD .skip
def lv98 (f : Nat) : List Nat := bif Nat.beq f 1 then [1] else []
def ct98 (f : Nat) : Bool := false
def P98_0 (R : RT) (n0 ro rt : Nat) (t0 : AV) (s : Sto) (QR : QT) : Prop := Wp (env R) (LFE (env R) 98 n0 ro rt) 18 [.tmp 2] (sub b98 []) [] [(0,t0)] s QR
theorem p98_0 {R : RT} {n0 ro rt : Nat} {t0 : AV} {s : Sto} {QR : QT} (h :
 wBox s t0 fun a1 s1x0 =>
 wFad s1x0 a1 0 fun a3 =>
 wLd (env R) s1x0 none a3 fun a4 =>
 wInt .i64 .eql a4 (I64 1) fun a5 =>
 wGK a5 true s1x0 (fun K => wFad s1x0 a1 1 fun a7 => K a7 s1x0) fun a7x1 s1x2 =>
 wGK a5 true s1x2 (fun K => wLd (env R) s1x2 none a7x1 fun a8 => K a8 s1x2) fun a8x3 s1x4 =>
 wGK a5 true s1x4 (fun K => wCall (env R) (LFE (env R) 98 n0 ro rt) (.func (.func 100) [] []) [a8x3] s1x4 fun a9 s1x5 => K a9 s1x5) fun a9x6 s1x7 =>
 wPick a5 a9x6 (BB false) fun a10 =>
 wGK a10 true s1x7 (fun K => wLd (env R) s1x7 none (.gptr 7 0) fun a12 => K a12 s1x7) fun a12x8 s1x9 =>
 wGK a10 true s1x9 (fun K => wFad s1x9 a1 1 fun a13 => K a13 s1x9) fun a13x10 s1x11 =>
 wGK a10 true s1x11 (fun K => wLd (env R) s1x11 none a13x10 fun a14 => K a14 s1x11) fun a14x12 s1x13 =>
 wGK a10 true s1x13 (fun K => wCall (env R) (LFE (env R) 98 n0 ro rt) (.func (.func 84) [] []) [a12x8,a14x12] s1x13 fun a15 s1x14 => K a15 s1x14) fun a15x15 s1x16 =>
 wGK a10 true s1x16 (fun K => wNot a15x15 fun a16 => K a16 s1x16) fun a16x17 s1x18 =>
 wPick a10 a16x17 (BB false) fun a17 =>
 QR a17 s1x18) : P98_0 R n0 ro rt t0 s QR :=
  wpc_mp (lv := lv98) (ct := ct98) _ _ _ _ h (by kernel_rfl)
theorem e98 {R : RT} {t0 : AV} {u0 : AV} {Post : AV → Prop} (hcl : closeL [] 0 0 [t0] = some [u0]) (h : P98_0 R 0 0 0 u0 ⟨[],[]⟩ (QP Post)) : PureC (env R) 98 [t0] Post :=
  call_rd (fn := Tryz.f98) (body := b98) Tryz.func98 (by kernel_rfl) (by kernel_rfl) (by kernel_rfl) (Nat.le_of_ble_eq_true (by kernel_rfl)) hcl (mpK h (by kernel_rfl))
/-! 99: telpher/typetext.exists -/
noncomputable def b99 : Code := Tryz.f99.body.getD .skip
def lv99 (f : Nat) : List Nat := bif Nat.blt f 7 then (
 bif Nat.blt f 4 then (
  bif Nat.blt f 2 then (
   bif Nat.beq f 1 then [1,2,4,5] else []) else (
   bif Nat.blt f 3 then (
    bif Nat.beq f 2 then [1,2,4,5,13] else []) else (
    bif Nat.beq f 3 then [1,2,4,5] else []))) else (
  bif Nat.blt f 5 then (
   bif Nat.beq f 4 then [1,2,4,5,6] else []) else (
   bif Nat.blt f 6 then (
    bif Nat.beq f 5 then [1,2,4,5,6,23] else []) else (
    bif Nat.beq f 6 then [1,2,4,5,6] else [])))) else (
 bif Nat.blt f 10 then (
  bif Nat.blt f 8 then (
   bif Nat.beq f 7 then [1,2,4,5,6,7,8] else []) else (
   bif Nat.blt f 9 then (
    bif Nat.beq f 8 then [1,2,4,5,6,7,8,37] else []) else (
    bif Nat.beq f 9 then [1,2,4,5,6,7,8] else []))) else (
  bif Nat.blt f 11 then (
   bif Nat.beq f 10 then [4,5,7,8,9] else []) else (
   bif Nat.blt f 12 then (
    bif Nat.beq f 11 then [4,5,7,8,9,56] else []) else (
    bif Nat.beq f 12 then [4,5,7,9] else []))))
def ct99 (f : Nat) : Bool := false
def P99_0 (R : RT) (n0 ro rt : Nat) (t0 t1 : AV) (s : Sto) (QR : QT) : Prop := Wp (env R) (LFE (env R) 99 n0 ro rt) 64 [.cell 4 25,.cell 5 35] (sub b99 []) [] [(0,t0),(1,t1)] s QR
def P99_1 (R : RT) (n0 ro rt : Nat) (t1 t2 t4 t5 : AV) (s : Sto) (QR : QT) : Prop := Wp (env R) (LFE (env R) 99 n0 ro rt) 64 [.cell 4 25,.cell 5 35] (sub b99 [1,1]) [] [(1,t1),(2,t2),(4,t4),(5,t5)] s QR
def P99_2 (R : RT) (n0 ro rt : Nat) (t1 t2 t4 t5 t6 : AV) (s : Sto) (QR : QT) : Prop := Wp (env R) (LFE (env R) 99 n0 ro rt) 64 [.cell 4 25,.cell 5 35] (sub b99 [1,1,1,1]) [] [(1,t1),(2,t2),(4,t4),(5,t5),(6,t6)] s QR
def P99_3 (R : RT) (n0 ro rt : Nat) (t1 t2 t4 t5 t6 t7 t8 : AV) (s : Sto) (QR : QT) : Prop := Wp (env R) (LFE (env R) 99 n0 ro rt) 64 [.cell 4 25,.cell 5 35] (sub b99 [1,1,1,1,1,1]) [] [(1,t1),(2,t2),(4,t4),(5,t5),(6,t6),(7,t7),(8,t8)] s QR
def P99_4 (R : RT) (n0 ro rt : Nat) (t4 t5 t7 t9 : AV) (s : Sto) (QR : QT) : Prop := Wp (env R) (LFE (env R) 99 n0 ro rt) 64 [.cell 4 25,.cell 5 35] (sub b99 [1,1,1,1,1,1,1,1]) [] [(4,t4),(5,t5),(7,t7),(9,t9)] s QR
theorem p99_0 {R : RT} {n0 ro rt : Nat} {t0 t1 : AV} {s : Sto} {QR : QT} (h :
 wBox s t0 fun a2 s1x0 =>
 wNew s1x0 [(I64 0),(SS []),(I64 0),(.capped [])] fun a4 s1x1 =>
 wNew s1x1 [(I64 0),(I64 0)] fun a5 s1x2 =>
 wFad s1x2 a2 2 fun a10 =>
 wLd (env R) s1x2 none a10 fun a11 =>
 wLen s1x2 a11 fun a12 =>
 wInt .i64 .neq a12 (I64 4) fun a13 =>
 wCond a13 (
 wBuild [(I64 0),(SS []),(I64 0),(.capped [])] [] fun a14 =>
 wLd (env R) s1x2 (some 4) a2 fun a15 =>
 wCall (env R) (LFE (env R) 99 n0 ro rt) (.func (.func 74) [] []) [a15] s1x2 fun a16 s1x3 =>
 wSt (LFE (env R) 99 n0 ro rt) s1x3 4 a4 a14 fun s1x4 =>
 wSt (LFE (env R) 99 n0 ro rt) s1x4 2 a5 a16 fun s1x5 =>
 wLd (env R) s1x5 (some 4) a4 fun r =>
 wLd (env R) s1x5 (some 2) a5 fun rx6 =>
 QR (.tuple [r,rx6]) s1x5) (
 P99_1 R n0 ro rt t1 a2 a4 a5 s1x2 QR)) : P99_0 R n0 ro rt t0 t1 s QR :=
  wpc_mp (lv := lv99) (ct := ct99) _ _ _ _ h (by kernel_rfl)
theorem p99_1 {R : RT} {n0 ro rt : Nat} {t1 t2 t4 t5 : AV} {s : Sto} {QR : QT} (h :
 wFad s t2 2 fun a17 =>
 wLd (env R) s none a17 fun a18 =>
 wIdx s 4 a18 (I64 1) fun a19 =>
 wLd (env R) s (some 4) a19 fun a20 =>
 wNew s [(I64 0),(SS []),(.capped []),(I64 0)] fun a6 s1x0 =>
 wSt (LFE (env R) 99 n0 ro rt) s1x0 4 a6 a20 fun s1x1 =>
 wLd (env R) s1x1 (some 4) a6 fun a21 =>
 wCall (env R) (LFE (env R) 99 n0 ro rt) (.func (.func 98) [] []) [a21] s1x1 fun a22 s1x2 =>
 wNot a22 fun a23 =>
 wCond a23 (
 wBuild [(I64 0),(SS []),(I64 0),(.capped [])] [] fun a24 =>
 wLd (env R) s1x2 (some 4) a6 fun a25 =>
 wCall (env R) (LFE (env R) 99 n0 ro rt) (.func (.func 74) [] []) [a25] s1x2 fun a26 s1x3 =>
 wSt (LFE (env R) 99 n0 ro rt) s1x3 4 t4 a24 fun s1x4 =>
 wSt (LFE (env R) 99 n0 ro rt) s1x4 2 t5 a26 fun s1x5 =>
 wLd (env R) s1x5 (some 4) t4 fun r =>
 wLd (env R) s1x5 (some 2) t5 fun rx6 =>
 QR (.tuple [r,rx6]) s1x5) (
 P99_2 R n0 ro rt t1 t2 t4 t5 a6 s1x2 QR)) : P99_1 R n0 ro rt t1 t2 t4 t5 s QR :=
  wpc_mp (lv := lv99) (ct := ct99) _ _ _ _ h (by kernel_rfl)
theorem p99_2 {R : RT} {n0 ro rt : Nat} {t1 t2 t4 t5 t6 : AV} {s : Sto} {QR : QT} (h :
 wFad s t2 2 fun a28 =>
 wLd (env R) s none a28 fun a29 =>
 wIdx s 4 a29 (I64 2) fun a30 =>
 wLd (env R) s (some 4) a30 fun a31 =>
 wCall (env R) (LFE (env R) 99 n0 ro rt) (.func (.func 46) [] []) [a31,(.capped [])] s fun a32 s1x0 =>
 wExt a32 0 fun a33 =>
 wExt a32 1 fun a34 =>
 wNew s1x0 [(I64 0),(SS []),(I64 0),(.capped [])] fun a7 s1x1 =>
 wNew s1x1 [(I64 0),(I64 0)] fun a8 s1x2 =>
 wSt (LFE (env R) 99 n0 ro rt) s1x2 4 a7 a33 fun s1x3 =>
 wSt (LFE (env R) 99 n0 ro rt) s1x3 2 a8 a34 fun s1x4 =>
 wFad s1x4 a8 0 fun a35 =>
 wLd (env R) s1x4 none a35 fun a36 =>
 wInt .i64 .neq a36 (I64 0) fun a37 =>
 wCond a37 (
 wBuild [(I64 0),(SS []),(I64 0),(.capped [])] [] fun a38 =>
 wLd (env R) s1x4 (some 2) a8 fun a39 =>
 wSt (LFE (env R) 99 n0 ro rt) s1x4 4 t4 a38 fun s1x5 =>
 wSt (LFE (env R) 99 n0 ro rt) s1x5 2 t5 a39 fun s1x6 =>
(wLd (env R) s1x5 (some 2) a8 fun v => eqA v a39 = true) ∧
 wLd (env R) s1x6 (some 4) t4 fun r =>
 wLd (env R) s1x6 (some 2) t5 fun rx7 =>
 QR (.tuple [r,rx7]) s1x6) (
 P99_3 R n0 ro rt t1 t2 t4 t5 t6 a7 a8 s1x4 QR)) : P99_2 R n0 ro rt t1 t2 t4 t5 t6 s QR :=
  wpc_mp (lv := lv99) (ct := ct99) _ _ _ _ h (by kernel_rfl)
theorem p99_3 {R : RT} {n0 ro rt : Nat} {t1 t2 t4 t5 t6 t7 t8 : AV} {s : Sto} {QR : QT} (h :
 wFad (⟨s.bs ++ [[(I64 0),(SS []),(I64 0),(.capped [])]],s.ts⟩ : Sto) t2 2 fun a41 =>
 wLd (env R) (⟨s.bs ++ [[(I64 0),(SS []),(I64 0),(.capped [])]],s.ts⟩ : Sto) none a41 fun a42 =>
 wIdx (⟨s.bs ++ [[(I64 0),(SS []),(I64 0),(.capped [])]],s.ts⟩ : Sto) 4 a42 (I64 3) fun a43 =>
 wLd (env R) (⟨s.bs ++ [[(I64 0),(SS []),(I64 0),(.capped [])]],s.ts⟩ : Sto) (some 4) a43 fun a44 =>
 wCall (env R) (LFE (env R) 99 n0 ro rt) (.func (.func 61) [] []) [t1] (⟨s.bs ++ [[(I64 0),(SS []),(I64 0),(.capped [])]],s.ts⟩ : Sto) fun a46 s1x0 =>
 wFad s1x0 t6 1 fun a47 =>
 wLd (env R) s1x0 none a47 fun a48 =>
 wBsl false s1x0 1 [(SS [])] 1 [(0,1,a48)] fun a49 s1x1 =>
(1 = 1 ∧ 1 ≠ 0) ∧ wApp false (LFE (env R) 99 n0 ro rt) s1x0 9 1 16 a46 a49 fun a50 s1x2 =>
 wCall (env R) (LFE (env R) 99 n0 ro rt) (.func (.func 46) [] []) [a44,a50] s1x2 fun a51 s1x3 =>
 wExt a51 0 fun a52 =>
 wExt a51 1 fun a53 =>
 wSt (LFE (env R) 99 n0 ro rt) s1x3 4 (.ptr s.bs.length 0) a52 fun s1x4 =>
 wSt (LFE (env R) 99 n0 ro rt) s1x4 2 t8 a53 fun s1x5 =>
(wFad s1x0 t2 2 fun v => eqA v a41 = true) ∧
(wFad s1x2 t2 2 fun vx6 => eqA vx6 a41 = true) ∧
(wLd (env R) s1x0 none a41 fun vx7 => eqA vx7 a42 = true) ∧
(wLd (env R) s1x2 none a41 fun vx8 => eqA vx8 a42 = true) ∧
(wIdx s1x0 4 a42 (I64 3) fun vx9 => eqA vx9 a43 = true) ∧
(wIdx s1x2 4 a42 (I64 3) fun vx10 => eqA vx10 a43 = true) ∧
(wLd (env R) s1x0 (some 4) a43 fun vx11 => eqA vx11 a44 = true) ∧
(wLd (env R) s1x2 (some 4) a43 fun vx12 => eqA vx12 a44 = true) ∧
(wFad (⟨s.bs ++ [[(I64 0),(SS []),(I64 0),(.capped [])]],s.ts⟩ : Sto) t6 1 fun vx13 => eqA vx13 a47 = true) ∧
(wLd (env R) (⟨s.bs ++ [[(I64 0),(SS []),(I64 0),(.capped [])]],s.ts⟩ : Sto) none a47 fun vx14 => eqA vx14 a48 = true) ∧
(wO (idOf (.ptr s.bs.length 0)) fun id => wO (⟨s.bs ++ [[(I64 0),(SS []),(I64 0),(.capped [])]],s.ts⟩ : Sto).bs[id]? fun cs' => eqAL cs' [(I64 0),(SS []),(I64 0),(.capped [])] = true) ∧
(wO (idOf (.ptr s.bs.length 0)) fun id => wO s1x0.bs[id]? fun cs' => eqAL cs' [(I64 0),(SS []),(I64 0),(.capped [])] = true) ∧
(wO (idOf (.ptr s.bs.length 0)) fun id => wO s1x2.bs[id]? fun cs' => eqAL cs' [(I64 0),(SS []),(I64 0),(.capped [])] = true) ∧
(wO (idOf (.ptr s.bs.length 0)) fun id => wO s1x3.bs[id]? fun cs' => eqAL cs' [(I64 0),(SS []),(I64 0),(.capped [])] = true) ∧
 wFad s1x5 t8 0 fun a54 =>
 wLd (env R) s1x5 none a54 fun a55 =>
 wInt .i64 .neq a55 (I64 0) fun a56 =>
 wCond a56 (
 wBuild [(I64 0),(SS []),(I64 0),(.capped [])] [] fun a57 =>
 wLd (env R) s1x5 (some 2) t8 fun a58 =>
 wSt (LFE (env R) 99 n0 ro rt) s1x5 4 t4 a57 fun s1x15 =>
 wSt (LFE (env R) 99 n0 ro rt) s1x15 2 t5 a58 fun s1x16 =>
(wLd (env R) s1x15 (some 2) t8 fun vx17 => eqA vx17 a58 = true) ∧
 wLd (env R) s1x16 (some 4) t4 fun r =>
 wLd (env R) s1x16 (some 2) t5 fun rx18 =>
 QR (.tuple [r,rx18]) s1x16) (
 P99_4 R n0 ro rt t4 t5 t7 (.ptr s.bs.length 0) s1x5 QR)) : P99_3 R n0 ro rt t1 t2 t4 t5 t6 t7 t8 s QR :=
  wpc_mp (lv := lv99) (ct := ct99) _ _ _ _ h (by kernel_rfl)
theorem p99_4 {R : RT} {n0 ro rt : Nat} {t4 t5 t7 t9 : AV} {s : Sto} {QR : QT} (h :
 wLd (env R) s (some 4) t7 fun a59 =>
 wLd (env R) s (some 4) t9 fun a60 =>
 wBsl false s 4 [(I64 0),(SS []),(I64 0),(.capped [])] 2 [(0,4,a59),(4,4,a60)] fun a61 s1x0 =>
 wBuild [(I64 0),(SS []),(I64 0),(.capped [])] [(0,1,(I64 6)),(3,1,a61)] fun a62 =>
 wBuild [(I64 0),(I64 0)] [] fun a63 =>
 wSt (LFE (env R) 99 n0 ro rt) s1x0 4 t4 a62 fun s1x1 =>
 wSt (LFE (env R) 99 n0 ro rt) s1x1 2 t5 a63 fun s1x2 =>
 wLd (env R) s1x2 (some 4) t4 fun r =>
 wLd (env R) s1x2 (some 2) t5 fun rx3 =>
 QR (.tuple [r,rx3]) s1x2) : P99_4 R n0 ro rt t4 t5 t7 t9 s QR :=
  wpc_mp (lv := lv99) (ct := ct99) _ _ _ _ h (by kernel_rfl)
theorem e99 {R : RT} {t0 t1 : AV} {u0 u1 : AV} {Post : AV → Prop} (hcl : closeL [] 0 0 [t0,t1] = some [u0,u1]) (h : P99_0 R 0 0 0 u0 u1 ⟨[],[]⟩ (QP Post)) : PureC (env R) 99 [t0,t1] Post :=
  call_rd (fn := Tryz.f99) (body := b99) Tryz.func99 (by kernel_rfl) (by kernel_rfl) (by kernel_rfl) (Nat.le_of_ble_eq_true (by kernel_rfl)) hcl (mpK h (by kernel_rfl))
/-! 24: telpher/telref1.FromNode -/
noncomputable def b24 : Code := Tryz.f24.body.getD .skip
def lv24 (f : Nat) : List Nat := bif Nat.blt f 5 then (
 bif Nat.blt f 3 then (
  bif Nat.blt f 2 then (
   bif Nat.beq f 1 then [1,2,4,5] else []) else (
   bif Nat.beq f 2 then [1,2,4,5,6] else [])) else (
  bif Nat.blt f 4 then (
   bif Nat.beq f 3 then [2,4,5,6,7] else []) else (
   bif Nat.beq f 4 then [2,4,5,6,7,20] else []))) else (
 bif Nat.blt f 7 then (
  bif Nat.blt f 6 then (
   bif Nat.beq f 5 then [2,4,5,7] else []) else (
   bif Nat.beq f 6 then [2,4,5,7,8] else [])) else (
  bif Nat.blt f 8 then (
   bif Nat.beq f 7 then [2,4,5,7,8,29] else []) else (
   bif Nat.beq f 8 then [4,5,7] else [])))
def ct24 (f : Nat) : Bool := false
def P24_0 (R : RT) (n0 ro rt : Nat) (t0 t1 : AV) (s : Sto) (QR : QT) : Prop := Wp (env R) (LFE (env R) 24 n0 ro rt) 37 [.cell 4 25,.cell 5 35] (sub b24 []) [] [(0,t0),(1,t1)] s QR
def P24_1 (R : RT) (n0 ro rt : Nat) (t2 t4 t5 t7 : AV) (s : Sto) (QR : QT) : Prop := Wp (env R) (LFE (env R) 24 n0 ro rt) 37 [.cell 4 25,.cell 5 35] (sub b24 [1,1,1,1]) [] [(2,t2),(4,t4),(5,t5),(7,t7)] s QR
def P24_2 (R : RT) (n0 ro rt : Nat) (t4 t5 t7 : AV) (s : Sto) (QR : QT) : Prop := Wp (env R) (LFE (env R) 24 n0 ro rt) 37 [.cell 4 25,.cell 5 35] (sub b24 [1,1,1,1,1]) [] [(4,t4),(5,t5),(7,t7)] s QR
theorem p24_0 {R : RT} {n0 ro rt : Nat} {t0 t1 : AV} {s : Sto} {QR : QT} (h :
 wBox s t0 fun a2 s1x0 =>
 wNew s1x0 [(I64 0),(SS []),(I64 0),(.capped [])] fun a4 s1x1 =>
 wNew s1x1 [(I64 0),(I64 0)] fun a5 s1x2 =>
 wBuild [(I64 0),(I64 0)] [] fun a9 =>
 wBox s1x2 a9 fun a10 s1x3 =>
 wLd (env R) s1x3 (some 4) a2 fun a12 =>
 wCall (env R) (LFE (env R) 24 n0 ro rt) (.func (.func 47) [] []) [a10,a12,t1] s1x3 fun a14 s1x4 =>
 wNew s1x4 [(I64 0),(SS []),(I64 0),(.capped [])] fun a7 s1x5 =>
 wSt (LFE (env R) 24 n0 ro rt) s1x5 4 a7 a14 fun s1x6 =>
 wNil s1x6 a10 fun a16 =>
 wFad s1x6 a16 0 fun a17 =>
 wFad s1x6 a17 0 fun a18 =>
 wLd (env R) s1x6 none a18 fun a19 =>
 wInt .i64 .neq a19 (I64 0) fun a20 =>
 wCond a20 (
 wBuild [(I64 0),(SS []),(I64 0),(.capped [])] [] fun a21 =>
 wNil s1x6 a10 fun a23 =>
 wFad s1x6 a23 0 fun a24 =>
 wLd (env R) s1x6 (some 2) a24 fun a25 =>
 wSt (LFE (env R) 24 n0 ro rt) s1x6 4 a4 a21 fun s1x7 =>
 wSt (LFE (env R) 24 n0 ro rt) s1x7 2 a5 a25 fun s1x8 =>
(wNil s1x7 a10 fun v => eqA v a23 = true) ∧
(wFad s1x7 a23 0 fun vx9 => eqA vx9 a24 = true) ∧
(wLd (env R) s1x7 (some 2) a24 fun vx10 => eqA vx10 a25 = true) ∧
 wLd (env R) s1x8 (some 4) a4 fun r =>
 wLd (env R) s1x8 (some 2) a5 fun rx11 =>
 QR (.tuple [r,rx11]) s1x8) (
 P24_1 R n0 ro rt a2 a4 a5 a7 s1x6 QR)) : P24_0 R n0 ro rt t0 t1 s QR :=
  wpc_mp (lv := lv24) (ct := ct24) _ _ _ _ h (by kernel_rfl)
theorem p24_1 {R : RT} {n0 ro rt : Nat} {t2 t4 t5 t7 : AV} {s : Sto} {QR : QT} (h :
 wLd (env R) s (some 4) t7 fun a26 =>
 wCall (env R) (LFE (env R) 24 n0 ro rt) (.func (.func 14) [] []) [a26] s fun a27 s1x0 =>
 wInt .i64 .neq a27 (I64 0) fun a29 =>
 wCond a29 (
 wBuild [(I64 0),(SS []),(I64 0),(.capped [])] [] fun a30 =>
 wFad s1x0 t2 3 fun a32 =>
 wLd (env R) s1x0 none a32 fun a33 =>
 wBuild [(I64 0),(I64 0)] [(0,1,a27),(1,1,a33)] fun a34 =>
 wSt (LFE (env R) 24 n0 ro rt) s1x0 4 t4 a30 fun s1x1 =>
 wSt (LFE (env R) 24 n0 ro rt) s1x1 2 t5 a34 fun s1x2 =>
(wFad s1x1 t2 3 fun v => eqA v a32 = true) ∧
(wLd (env R) s1x1 none a32 fun vx3 => eqA vx3 a33 = true) ∧
 wLd (env R) s1x2 (some 4) t4 fun r =>
 wLd (env R) s1x2 (some 2) t5 fun rx4 =>
 QR (.tuple [r,rx4]) s1x2) (
 P24_2 R n0 ro rt t4 t5 t7 s1x0 QR)) : P24_1 R n0 ro rt t2 t4 t5 t7 s QR :=
  wpc_mp (lv := lv24) (ct := ct24) _ _ _ _ h (by kernel_rfl)
theorem p24_2 {R : RT} {n0 ro rt : Nat} {t4 t5 t7 : AV} {s : Sto} {QR : QT} (h :
 wLd (env R) s (some 4) t7 fun a35 =>
 wBuild [(I64 0),(I64 0)] [] fun a36 =>
 wSt (LFE (env R) 24 n0 ro rt) s 4 t4 a35 fun s1x0 =>
 wSt (LFE (env R) 24 n0 ro rt) s1x0 2 t5 a36 fun s1x1 =>
 wLd (env R) s1x1 (some 4) t4 fun r =>
 wLd (env R) s1x1 (some 2) t5 fun rx2 =>
 QR (.tuple [r,rx2]) s1x1) : P24_2 R n0 ro rt t4 t5 t7 s QR :=
  wpc_mp (lv := lv24) (ct := ct24) _ _ _ _ h (by kernel_rfl)
theorem e24 {R : RT} {t0 t1 : AV} {u0 u1 : AV} {Post : AV → Prop} (hcl : closeL [] 0 0 [t0,t1] = some [u0,u1]) (h : P24_0 R 0 0 0 u0 u1 ⟨[],[]⟩ (QP Post)) : PureC (env R) 24 [t0,t1] Post :=
  call_rd (fn := Tryz.f24) (body := b24) Tryz.func24 (by kernel_rfl) (by kernel_rfl) (by kernel_rfl) (Nat.le_of_ble_eq_true (by kernel_rfl)) hcl (mpK h (by kernel_rfl))
/-! 47: (*telpher/telref1.converter).convert -/
noncomputable def b47 : Code := Tryz.f47.body.getD .skip
def lv47 (f : Nat) : List Nat := bif Nat.blt f 14 then (
 bif Nat.blt f 7 then (
  bif Nat.blt f 4 then (
   bif Nat.blt f 2 then (
    bif Nat.beq f 1 then [0,2,4,6] else []) else (
    bif Nat.blt f 3 then (
     bif Nat.beq f 2 then [0,2,4,6,16] else []) else (
     bif Nat.beq f 3 then [0,2,4,6] else []))) else (
   bif Nat.blt f 5 then (
    bif Nat.beq f 4 then [0,2,4,6,20] else []) else (
    bif Nat.blt f 6 then (
     bif Nat.beq f 5 then [0,2,4,6] else []) else (
     bif Nat.beq f 6 then [0,2,4,6,41] else [])))) else (
  bif Nat.blt f 10 then (
   bif Nat.blt f 8 then (
    bif Nat.beq f 7 then [0,2,4,6] else []) else (
    bif Nat.blt f 9 then (
     bif Nat.beq f 8 then [0,2,4,6,7,8] else []) else (
     bif Nat.beq f 9 then [0,2,4,6,7,8,53] else []))) else (
   bif Nat.blt f 12 then (
    bif Nat.beq f 10 then [0,2,4,6,7,8,53,54] else []) else (
    bif Nat.blt f 13 then (
     bif Nat.beq f 12 then [0,2,4,6,7,8,53,61] else []) else (
     bif Nat.beq f 13 then [0,2,4,6,8,65] else []))))) else (
 bif Nat.blt f 21 then (
  bif Nat.blt f 18 then (
   bif Nat.blt f 16 then (
    bif Nat.beq f 14 then [0,2,6,8] else []) else (
    bif Nat.blt f 17 then (
     bif Nat.beq f 16 then [0,2,4,6,7,8,74] else []) else (
     bif Nat.beq f 17 then [0,2,4,6,8,78] else []))) else (
   bif Nat.blt f 19 then (
    bif Nat.beq f 18 then [0,2,6,8] else []) else (
    bif Nat.blt f 20 then (
     bif Nat.beq f 19 then [0,2,6,8,9] else []) else (
     bif Nat.beq f 20 then [0,2,6,8,9,98] else [])))) else (
  bif Nat.blt f 24 then (
   bif Nat.blt f 22 then (
    bif Nat.beq f 21 then [0,2,6,8,9] else []) else (
    bif Nat.blt f 23 then (
     bif Nat.beq f 22 then [0,2,6,8,9,10] else []) else (
     bif Nat.beq f 23 then [0,2,4,6,7,8] else []))) else (
   bif Nat.blt f 26 then (
    bif Nat.blt f 25 then (
     bif Nat.beq f 24 then [0,2,4,6,7,8,123] else []) else (
     bif Nat.beq f 25 then [0,2,6,7,8] else [])) else (
    bif Nat.blt f 27 then (
     bif Nat.beq f 26 then [0,2,6,7,8,135] else []) else (
     bif Nat.beq f 27 then [0,2,6,7,8] else [])))))
def ct47 (f : Nat) : Bool := false
def P47_0 (R : RT) (n0 ro rt : Nat) (t0 t1 t2 : AV) (s : Sto) (QR : QT) : Prop := Wp (env R) (LFE (env R) 47 n0 ro rt) 146 [.cell 6 25] (sub b47 []) [] [(0,t0),(1,t1),(2,t2)] s QR
def P47_1 (R : RT) (n0 ro rt : Nat) (t0 t2 t4 t6 : AV) (s : Sto) (QR : QT) : Prop := Wp (env R) (LFE (env R) 47 n0 ro rt) 146 [.cell 6 25] (sub b47 [1,1]) [] [(0,t0),(2,t2),(4,t4),(6,t6)] s QR
def P47_2 (R : RT) (n0 ro rt : Nat) (t0 t2 t4 t6 : AV) (s : Sto) (QR : QT) : Prop := Wp (env R) (LFE (env R) 47 n0 ro rt) 146 [.cell 6 25] (sub b47 [1,1,1]) [] [(0,t0),(2,t2),(4,t4),(6,t6)] s QR
def P47_3 (R : RT) (n0 ro rt : Nat) (t0 t2 t4 t6 : AV) (s : Sto) (QR : QT) : Prop := Wp (env R) (LFE (env R) 47 n0 ro rt) 146 [.cell 6 25] (sub b47 [1,1,1,1]) [] [(0,t0),(2,t2),(4,t4),(6,t6)] s QR
def P47_4 (R : RT) (n0 ro rt : Nat) (t0 t2 t6 t8 : AV) (s : Sto) (QR : QT) : Prop := Wp (env R) (LFE (env R) 47 n0 ro rt) 146 [.cell 6 25] (sub b47 [1,1,1,1,1,0,1,0,1,1,1,0,1]) [.blk 0,.seq (sub b47 [1,1,1,1,1,1])] [(0,t0),(2,t2),(6,t6),(8,t8)] s QR
def P47_5 (R : RT) (n0 ro rt : Nat) (t0 t2 t6 t8 : AV) (s : Sto) (QR : QT) : Prop := Wp (env R) (LFE (env R) 47 n0 ro rt) 146 [.cell 6 25] (sub b47 [1,1,1,1,1,0,1,0,1,1,1,1,1,0,1]) [.blk 0,.seq (sub b47 [1,1,1,1,1,1])] [(0,t0),(2,t2),(6,t6),(8,t8)] s QR
def P47_6 (R : RT) (n0 ro rt : Nat) (t0 t2 t4 t6 t7 t8 : AV) (s : Sto) (QR : QT) : Prop := Wp (env R) (LFE (env R) 47 n0 ro rt) 146 [.cell 6 25] (sub b47 [1,1,1,1,1,1]) [] [(0,t0),(2,t2),(4,t4),(6,t6),(7,t7),(8,t8)] s QR
def P47_7 (R : RT) (n0 ro rt : Nat) (t0 t2 t6 t8 t9 : AV) (s : Sto) (QR : QT) : Prop := Wp (env R) (LFE (env R) 47 n0 ro rt) 146 [.cell 6 25] (sub b47 [1,1,1,1,1,0,1,0,1,1,1,1,1,0,1,1,1]) [.blk 0,.seq (sub b47 [1,1,1,1,1,1])] [(0,t0),(2,t2),(6,t6),(8,t8),(9,t9)] s QR
def P47_8 (R : RT) (n0 ro rt : Nat) (t0 t2 t6 t7 t8 : AV) (s : Sto) (QR : QT) : Prop := Wp (env R) (LFE (env R) 47 n0 ro rt) 146 [.cell 6 25] (sub b47 [1,1,1,1,1,1,1]) [] [(0,t0),(2,t2),(6,t6),(7,t7),(8,t8)] s QR
def P47_9 (R : RT) (n0 ro rt : Nat) (t0 t2 t6 t7 t8 : AV) (s : Sto) (QR : QT) : Prop := Wp (env R) (LFE (env R) 47 n0 ro rt) 146 [.cell 6 25] (sub b47 [1,1,1,1,1,1,1,1]) [] [(0,t0),(2,t2),(6,t6),(7,t7),(8,t8)] s QR
theorem p47_0 {R : RT} {n0 ro rt : Nat} {t0 t1 t2 : AV} {s : Sto} {QR : QT} (h :
 wBox s t1 fun a4 s1x0 =>
 wNew s1x0 [(I64 0),(SS []),(I64 0),(.capped [])] fun a6 s1x1 =>
 wNil s1x1 t0 fun a12 =>
 wFad s1x1 a12 0 fun a13 =>
 wFad s1x1 a13 0 fun a14 =>
 wLd (env R) s1x1 none a14 fun a15 =>
 wInt .i64 .neq a15 (I64 0) fun a16 =>
 wCond a16 (
 wBuild [(I64 0),(SS []),(I64 0),(.capped [])] [] fun a17 =>
 wSt (LFE (env R) 47 n0 ro rt) s1x1 4 a6 a17 fun s1x2 =>
 wLd (env R) s1x2 (some 4) a6 fun r =>
 QR r s1x2) (
 P47_1 R n0 ro rt t0 t2 a4 a6 s1x1 QR)) : P47_0 R n0 ro rt t0 t1 t2 s QR :=
  wpc_mp (lv := lv47) (ct := ct47) _ _ _ _ h (by kernel_rfl)
theorem p47_1 {R : RT} {n0 ro rt : Nat} {t0 t2 t4 t6 : AV} {s : Sto} {QR : QT} (h :
 wFad s t4 0 fun a18 =>
 wLd (env R) s none a18 fun a19 =>
 wInt .i64 .eql a19 (I64 1) fun a20 =>
 wCond a20 (
 wLd (env R) s (some 4) t4 fun a22 =>
 wCall (env R) (LFE (env R) 47 n0 ro rt) (.func (.func 75) [] []) [t0,a22,t2] s fun a24 s1x0 =>
 wSt (LFE (env R) 47 n0 ro rt) s1x0 4 t6 a24 fun s1x1 =>
 wLd (env R) s1x1 (some 4) t6 fun r =>
 QR r s1x1) (
 P47_2 R n0 ro rt t0 t2 t4 t6 s QR)) : P47_1 R n0 ro rt t0 t2 t4 t6 s QR :=
  wpc_mp (lv := lv47) (ct := ct47) _ _ _ _ h (by kernel_rfl)
theorem p47_2 {R : RT} {n0 ro rt : Nat} {t0 t2 t4 t6 : AV} {s : Sto} {QR : QT} (h :
 wFad s t4 0 fun a25 =>
 wLd (env R) s none a25 fun a26 =>
 wInt .i64 .neq a26 (I64 3) fun a27 =>
 wGK a27 false s (fun K => wFad s t4 2 fun a29 => K a29 s) fun a29x0 s1x1 =>
 wGK a27 false s1x1 (fun K => wLd (env R) s1x1 none a29x0 fun a30 => K a30 s1x1) fun a30x2 s1x3 =>
 wGK a27 false s1x3 (fun K => wLen s1x3 a30x2 fun a31 => K a31 s1x3) fun a31x4 s1x5 =>
 wGK a27 false s1x5 (fun K => wInt .i64 .eql a31x4 (I64 0) fun a32 => K a32 s1x5) fun a32x6 s1x7 =>
 wPick a27 (BB true) a32x6 fun a33 =>
 wGK a33 false s1x7 (fun K => wFad s1x7 t4 2 fun a35 => K a35 s1x7) fun a35x8 s1x9 =>
 wGK a33 false s1x9 (fun K => wLd (env R) s1x9 none a35x8 fun a36 => K a36 s1x9) fun a36x10 s1x11 =>
 wGK a33 false s1x11 (fun K => wIdx s1x11 4 a36x10 (I64 0) fun a37 => K a37 s1x11) fun a37x12 s1x13 =>
 wGK a33 false s1x13 (fun K => wFad s1x13 a37x12 0 fun a38 => K a38 s1x13) fun a38x14 s1x15 =>
 wGK a33 false s1x15 (fun K => wLd (env R) s1x15 none a38x14 fun a39 => K a39 s1x15) fun a39x16 s1x17 =>
 wGK a33 false s1x17 (fun K => wInt .i64 .neq a39x16 (I64 1) fun a40 => K a40 s1x17) fun a40x18 s1x19 =>
 wPick a33 (BB true) a40x18 fun a41 =>
 wCond a41 (
 wLd (env R) s1x19 (some 4) t4 fun a43 =>
 wCall (env R) (LFE (env R) 47 n0 ro rt) (.func (.func 76) [] []) [t0,a43] s1x19 fun a44 s1x20 =>
 wSt (LFE (env R) 47 n0 ro rt) s1x20 4 t6 a44 fun s1x21 =>
 wLd (env R) s1x21 (some 4) t6 fun r =>
 QR r s1x21) (
 P47_3 R n0 ro rt t0 t2 t4 t6 s1x19 QR)) : P47_2 R n0 ro rt t0 t2 t4 t6 s QR :=
  wpc_mp (lv := lv47) (ct := ct47) _ _ _ _ h (by kernel_rfl)
theorem p47_3 {R : RT} {n0 ro rt : Nat} {t0 t2 t4 t6 : AV} {s : Sto} {QR : QT} (h :
 wFad s t4 2 fun a45 =>
 wLd (env R) s none a45 fun a46 =>
 wIdx s 4 a46 (I64 0) fun a47 =>
 wLd (env R) s (some 4) a47 fun a48 =>
 wFad s t4 2 fun a49 =>
 wLd (env R) s none a49 fun a50 =>
 wSlc s 4 a50 (some (I64 1)) none none fun a51 =>
 wNew s [(I64 0),(SS []),(.capped []),(I64 0)] fun a7 s1x0 =>
 wSt (LFE (env R) 47 n0 ro rt) s1x0 4 a7 a48 fun s1x1 =>
(wFad s1x0 t4 2 fun v => eqA v a45 = true) ∧
(wLd (env R) s1x0 none a45 fun vx2 => eqA vx2 a46 = true) ∧
(wIdx s1x0 4 a46 (I64 0) fun vx3 => eqA vx3 a47 = true) ∧
(wLd (env R) s1x0 (some 4) a47 fun vx4 => eqA vx4 a48 = true) ∧
(wFad s1x0 t4 2 fun vx5 => eqA vx5 a49 = true) ∧
(wFad s1x1 t4 2 fun vx6 => eqA vx6 a49 = true) ∧
(wLd (env R) s1x0 none a49 fun vx7 => eqA vx7 a50 = true) ∧
(wLd (env R) s1x1 none a49 fun vx8 => eqA vx8 a50 = true) ∧
(wSlc s1x0 4 a50 (some (I64 1)) none none fun vx9 => eqA vx9 a51 = true) ∧
(wSlc s1x1 4 a50 (some (I64 1)) none none fun vx10 => eqA vx10 a51 = true) ∧
 wFad s1x1 a7 1 fun a52 =>
 wLd (env R) s1x1 none a52 fun a53 =>
 wStr .eql a53 (SS [116,117,112,108,101]) fun a55 =>
 wCond a55 (
 wCall (env R) (LFE (env R) 47 n0 ro rt) (.func (.func 77) [] []) [t0,a51,t2] s1x1 fun a59 s1x11 =>
 wBuild [(I64 0),(SS []),(I64 0),(.capped [])] [(0,1,(I64 3)),(3,1,a59)] fun a60 =>
 wSt (LFE (env R) 47 n0 ro rt) s1x11 4 t6 a60 fun s1x12 =>
 wLd (env R) s1x12 (some 4) t6 fun r =>
 QR r s1x12) (
 wStr .eql a53 (SS [117,110,105,111,110]) fun a62 =>
 wCond a62 (
 wLen s1x1 a51 fun a64 =>
 wInt .i64 .lss a64 (I64 2) fun a65 =>
 wCond a65 (
 wLd (env R) s1x1 (some 4) t4 fun a67 =>
 wCall (env R) (LFE (env R) 47 n0 ro rt) (.func (.func 76) [] []) [t0,a67] s1x1 fun a68 s1x13 =>
 wSt (LFE (env R) 47 n0 ro rt) s1x13 4 t6 a68 fun s1x14 =>
 wLd (env R) s1x14 (some 4) t6 fun rx15 =>
 QR rx15 s1x14) (
 P47_4 R n0 ro rt t0 t2 t6 a51 s1x1 QR)) (
 wStr .eql a53 (SS [101,120,105,115,116,115]) fun a75 =>
 wCond a75 (
 wLen s1x1 a51 fun a77 =>
 wInt .i64 .neq a77 (I64 3) fun a78 =>
 wCond a78 (
 wLd (env R) s1x1 (some 4) t4 fun a80 =>
 wCall (env R) (LFE (env R) 47 n0 ro rt) (.func (.func 76) [] []) [t0,a80] s1x1 fun a81 s1x16 =>
 wSt (LFE (env R) 47 n0 ro rt) s1x16 4 t6 a81 fun s1x17 =>
 wLd (env R) s1x17 (some 4) t6 fun rx18 =>
 QR rx18 s1x17) (
 P47_5 R n0 ro rt t0 t2 t6 a51 s1x1 QR)) (
 P47_6 R n0 ro rt t0 t2 t4 t6 a7 a51 s1x1 QR)))) : P47_3 R n0 ro rt t0 t2 t4 t6 s QR :=
  wpc_mp (lv := lv47) (ct := ct47) _ _ _ _ h (by kernel_rfl)
theorem p47_4 {R : RT} {n0 ro rt : Nat} {t0 t2 t6 t8 : AV} {s : Sto} {QR : QT} (h :
 wCall (env R) (LFE (env R) 47 n0 ro rt) (.func (.func 77) [] []) [t0,t8,t2] s fun a72 s1x0 =>
 wBuild [(I64 0),(SS []),(I64 0),(.capped [])] [(0,1,(I64 4)),(3,1,a72)] fun a73 =>
 wSt (LFE (env R) 47 n0 ro rt) s1x0 4 t6 a73 fun s1x1 =>
 wLd (env R) s1x1 (some 4) t6 fun r =>
 QR r s1x1) : P47_4 R n0 ro rt t0 t2 t6 t8 s QR :=
  wpc_mp (lv := lv47) (ct := ct47) _ _ _ _ h (by kernel_rfl)
theorem p47_5 {R : RT} {n0 ro rt : Nat} {t0 t2 t6 t8 : AV} {s : Sto} {QR : QT} (h :
 wIdx s 4 t8 (I64 0) fun a83 =>
 wLd (env R) s (some 4) a83 fun a84 =>
 wNew s [(I64 0),(SS []),(.capped []),(I64 0)] fun a9 s1x0 =>
 wSt (LFE (env R) 47 n0 ro rt) s1x0 4 a9 a84 fun s1x1 =>
 wFad s1x1 a9 0 fun a85 =>
 wLd (env R) s1x1 none a85 fun a86 =>
 wInt .i64 .neq a86 (I64 1) fun a87 =>
 wGK a87 false s1x1 (fun K => wFad s1x1 a9 1 fun a89 => K a89 s1x1) fun a89x2 s1x3 =>
 wGK a87 false s1x3 (fun K => wLd (env R) s1x3 none a89x2 fun a90 => K a90 s1x3) fun a90x4 s1x5 =>
 wGK a87 false s1x5 (fun K => wCall (env R) (LFE (env R) 47 n0 ro rt) (.func (.func 67) [] []) [a90x4] s1x5 fun a91 s1x6 => K a91 s1x6) fun a91x7 s1x8 =>
 wGK a87 false s1x8 (fun K => wNot a91x7 fun a92 => K a92 s1x8) fun a92x9 s1x10 =>
 wPick a87 (BB true) a92x9 fun a93 =>
 wGK a93 false s1x10 (fun K => wFad s1x10 a9 1 fun a95 => K a95 s1x10) fun a95x11 s1x12 =>
 wGK a93 false s1x12 (fun K => wLd (env R) s1x12 none a95x11 fun a96 => K a96 s1x12) fun a96x13 s1x14 =>
 wGK a93 false s1x14 (fun K => wCall (env R) (LFE (env R) 47 n0 ro rt) (.func (.func 68) [] []) [a96x13] s1x14 fun a97 s1x15 => K a97 s1x15) fun a97x16 s1x17 =>
 wPick a93 (BB true) a97x16 fun a98 =>
 wCond a98 (
 wLd (env R) s1x17 (some 4) a9 fun a100 =>
 wCall (env R) (LFE (env R) 47 n0 ro rt) (.func (.func 76) [] []) [t0,a100] s1x17 fun a101 s1x18 =>
 wSt (LFE (env R) 47 n0 ro rt) s1x18 4 t6 a101 fun s1x19 =>
 wLd (env R) s1x19 (some 4) t6 fun r =>
 QR r s1x19) (
 P47_7 R n0 ro rt t0 t2 t6 t8 a9 s1x17 QR)) : P47_5 R n0 ro rt t0 t2 t6 t8 s QR :=
  wpc_mp (lv := lv47) (ct := ct47) _ _ _ _ h (by kernel_rfl)
theorem p47_6 {R : RT} {n0 ro rt : Nat} {t0 t2 t4 t6 t7 t8 : AV} {s : Sto} {QR : QT} (h :
 wLen s t8 fun a122 =>
 wInt .i64 .eql a122 (I64 0) fun a123 =>
 wCond a123 (
 wLd (env R) s (some 4) t4 fun a125 =>
 wCall (env R) (LFE (env R) 47 n0 ro rt) (.func (.func 76) [] []) [t0,a125] s fun a126 s1x0 =>
 wSt (LFE (env R) 47 n0 ro rt) s1x0 4 t6 a126 fun s1x1 =>
 wLd (env R) s1x1 (some 4) t6 fun r =>
 QR r s1x1) (
 P47_8 R n0 ro rt t0 t2 t6 t7 t8 s QR)) : P47_6 R n0 ro rt t0 t2 t4 t6 t7 t8 s QR :=
  wpc_mp (lv := lv47) (ct := ct47) _ _ _ _ h (by kernel_rfl)
theorem p47_7 {R : RT} {n0 ro rt : Nat} {t0 t2 t6 t8 t9 : AV} {s : Sto} {QR : QT} (h :
 wIdx s 4 t8 (I64 1) fun a104 =>
 wLd (env R) s (some 4) a104 fun a105 =>
 wCall (env R) (LFE (env R) 47 n0 ro rt) (.func (.func 47) [] []) [t0,a105,(.capped [])] s fun a106 s1x0 =>
 wNew s1x0 [(I64 0),(SS []),(I64 0),(.capped [])] fun a10 s1x1 =>
 wSt (LFE (env R) 47 n0 ro rt) s1x1 4 a10 a106 fun s1x2 =>
 wLd (env R) s1x2 (some 4) a10 fun a107 =>
 wIdx s1x2 4 t8 (I64 2) fun a110 =>
 wLd (env R) s1x2 (some 4) a110 fun a111 =>
 wBsl false s1x2 1 [(SS [])] 0 [] fun a112 s1x3 =>
(1 = 1 ∧ 1 ≠ 0) ∧ wApp false (LFE (env R) 47 n0 ro rt) s1x2 9 1 16 a112 t2 fun a114 s1x4 =>
 wFad s1x4 t9 1 fun a115 =>
 wLd (env R) s1x4 none a115 fun a116 =>
 wBsl false s1x4 1 [(SS [])] 1 [(0,1,a116)] fun a117 s1x5 =>
(1 = 1 ∧ 1 ≠ 0) ∧ wApp false (LFE (env R) 47 n0 ro rt) s1x4 9 1 16 a114 a117 fun a118 s1x6 =>
 wCall (env R) (LFE (env R) 47 n0 ro rt) (.func (.func 47) [] []) [t0,a111,a118] s1x6 fun a119 s1x7 =>
 wCall (env R) (LFE (env R) 47 n0 ro rt) (.func (.func 32) [] []) [a107,a119] s1x7 fun a120 s1x8 =>
 wSt (LFE (env R) 47 n0 ro rt) s1x8 4 t6 a120 fun s1x9 =>
(wLd (env R) s1x4 (some 4) a10 fun v => eqA v a107 = true) ∧
(wLd (env R) s1x6 (some 4) a10 fun vx10 => eqA vx10 a107 = true) ∧
(wLd (env R) s1x7 (some 4) a10 fun vx11 => eqA vx11 a107 = true) ∧
(wIdx s1x4 4 t8 (I64 2) fun vx12 => eqA vx12 a110 = true) ∧
(wIdx s1x6 4 t8 (I64 2) fun vx13 => eqA vx13 a110 = true) ∧
(wLd (env R) s1x4 (some 4) a110 fun vx14 => eqA vx14 a111 = true) ∧
(wLd (env R) s1x6 (some 4) a110 fun vx15 => eqA vx15 a111 = true) ∧
(wFad s1x2 t9 1 fun vx16 => eqA vx16 a115 = true) ∧
(wLd (env R) s1x2 none a115 fun vx17 => eqA vx17 a116 = true) ∧
 wLd (env R) s1x9 (some 4) t6 fun r =>
 QR r s1x9) : P47_7 R n0 ro rt t0 t2 t6 t8 t9 s QR :=
  wpc_mp (lv := lv47) (ct := ct47) _ _ _ _ h (by kernel_rfl)
theorem p47_8 {R : RT} {n0 ro rt : Nat} {t0 t2 t6 t7 t8 : AV} {s : Sto} {QR : QT} (h :
 wFad s t7 1 fun a127 =>
 wLd (env R) s none a127 fun a128 =>
 wCall (env R) (LFE (env R) 47 n0 ro rt) (.func (.func 67) [] []) [a128] s fun a129 s1x0 =>
 wNot a129 fun a130 =>
 wGK a130 false s1x0 (fun K => wFad s1x0 t7 1 fun a132 => K a132 s1x0) fun a132x1 s1x2 =>
 wGK a130 false s1x2 (fun K => wLd (env R) s1x2 none a132x1 fun a133 => K a133 s1x2) fun a133x3 s1x4 =>
 wGK a130 false s1x4 (fun K => wCall (env R) (LFE (env R) 47 n0 ro rt) (.func (.func 68) [] []) [a133x3] s1x4 fun a134 s1x5 => K a134 s1x5) fun a134x6 s1x7 =>
 wPick a130 (BB true) a134x6 fun a135 =>
 wCond a135 (
 wLd (env R) s1x7 (some 4) t7 fun a137 =>
 wCall (env R) (LFE (env R) 47 n0 ro rt) (.func (.func 76) [] []) [t0,a137] s1x7 fun a138 s1x8 =>
 wSt (LFE (env R) 47 n0 ro rt) s1x8 4 t6 a138 fun s1x9 =>
 wLd (env R) s1x9 (some 4) t6 fun r =>
 QR r s1x9) (
 P47_9 R n0 ro rt t0 t2 t6 t7 t8 s1x7 QR)) : P47_8 R n0 ro rt t0 t2 t6 t7 t8 s QR :=
  wpc_mp (lv := lv47) (ct := ct47) _ _ _ _ h (by kernel_rfl)
theorem p47_9 {R : RT} {n0 ro rt : Nat} {t0 t2 t6 t7 t8 : AV} {s : Sto} {QR : QT} (h :
 wFad s t7 1 fun a139 =>
 wLd (env R) s none a139 fun a140 =>
 wCall (env R) (LFE (env R) 47 n0 ro rt) (.func (.func 77) [] []) [t0,t8,t2] s fun a144 s1x0 =>
 wBuild [(I64 0),(SS []),(I64 0),(.capped [])] [(0,1,(I64 2)),(1,1,a140),(3,1,a144)] fun a145 =>
 wSt (LFE (env R) 47 n0 ro rt) s1x0 4 t6 a145 fun s1x1 =>
(wFad s1x0 t7 1 fun v => eqA v a139 = true) ∧
(wLd (env R) s1x0 none a139 fun vx2 => eqA vx2 a140 = true) ∧
 wLd (env R) s1x1 (some 4) t6 fun r =>
 QR r s1x1) : P47_9 R n0 ro rt t0 t2 t6 t7 t8 s QR :=
  wpc_mp (lv := lv47) (ct := ct47) _ _ _ _ h (by kernel_rfl)
theorem m47 {R : RT} {t0 t1 t2 : AV} {L : Lim} {s : Sto} {Post : AV → Sto → Prop} (hn : noIdL [t0,t1,t2] = false) (h : P47_0 R 0 L.ro L.rt t0 t1 t2 s (QM (L.rr 47) s.bs.length Post)) : ∃ v s',Post v s' ∧ CallE (env R) L 47 [t0,t1,t2] s v s' :=
  call_im (fn := Tryz.f47) (body := b47) Tryz.func47 (by kernel_rfl) (by kernel_rfl) (by kernel_rfl) (Nat.le_of_ble_eq_true (by kernel_rfl)) hn (mpK h (by kernel_rfl))
/-! 75: (*telpher/telref1.converter).word -/
noncomputable def b75 : Code := Tryz.f75.body.getD .skip
def lv75 (f : Nat) : List Nat := bif Nat.blt f 8 then (
 bif Nat.blt f 5 then (
  bif Nat.blt f 2 then (
   bif Nat.beq f 1 then [0,2,4,6] else []) else (
   bif Nat.blt f 3 then (
    bif Nat.beq f 2 then [0,2,4,6,9] else []) else (
    bif Nat.beq f 3 then [0,2,4,6,9,10] else []))) else (
  bif Nat.blt f 6 then (
   bif Nat.beq f 5 then [0,2,4,6,13] else []) else (
   bif Nat.blt f 7 then (
    bif Nat.beq f 6 then [0,2,4,6] else []) else (
    bif Nat.beq f 7 then [0,2,4,6,7] else [])))) else (
 bif Nat.blt f 11 then (
  bif Nat.blt f 9 then (
   bif Nat.beq f 8 then [0,2,4,6,7] else []) else (
   bif Nat.blt f 10 then (
    bif Nat.beq f 9 then [0,2,4,6,7] else []) else (
    bif Nat.beq f 10 then [0,2,4,6,7,29] else []))) else (
  bif Nat.blt f 12 then (
   bif Nat.beq f 11 then [0,4,6] else []) else (
   bif Nat.blt f 13 then (
    bif Nat.beq f 12 then [0,4,6,44] else []) else (
    bif Nat.beq f 13 then [4,6] else []))))
def ct75 (f : Nat) : Bool := false
def P75_0 (R : RT) (n0 ro rt : Nat) (t0 t1 t2 : AV) (s : Sto) (QR : QT) : Prop := Wp (env R) (LFE (env R) 75 n0 ro rt) 51 [.cell 6 25] (sub b75 []) [] [(0,t0),(1,t1),(2,t2)] s QR
def P75_1 (R : RT) (n0 ro rt : Nat) (t0 t2 t4 t6 : AV) (s : Sto) (QR : QT) : Prop := Wp (env R) (LFE (env R) 75 n0 ro rt) 51 [.cell 6 25] (sub b75 [1,1]) [] [(0,t0),(2,t2),(4,t4),(6,t6)] s QR
def P75_2 (R : RT) (n0 ro rt : Nat) (t0 t2 t4 t6 t7 : AV) (s : Sto) (QR : QT) : Prop := Wp (env R) (LFE (env R) 75 n0 ro rt) 51 [.cell 6 25] (.loop (sub b75 [1,1,0,1,0,0])) [.blk 1,.seq (sub b75 [1,1,1])] [(0,t0),(2,t2),(4,t4),(6,t6),(7,t7)] s QR
def P75_3 (R : RT) (n0 ro rt : Nat) (t0 t2 t4 t6 t7 : AV) (s : Sto) (QR : QT) : Prop := Wp (env R) (LFE (env R) 75 n0 ro rt) 51 [.cell 6 25] (sub b75 [1,1,0,1,0,0,1]) [.loop (sub b75 [1,1,0,1,0,0]),.blk 1,.seq (sub b75 [1,1,1])] [(0,t0),(2,t2),(4,t4),(6,t6),(7,t7)] s QR
def P75_4 (R : RT) (n0 ro rt : Nat) (t0 t4 t6 : AV) (s : Sto) (QR : QT) : Prop := Wp (env R) (LFE (env R) 75 n0 ro rt) 51 [.cell 6 25] (sub b75 [1,1,1]) [] [(0,t0),(4,t4),(6,t6)] s QR
def P75_5 (R : RT) (n0 ro rt : Nat) (t0 t2 t4 t6 t7 : AV) (s : Sto) (QR : QT) : Prop := Wp (env R) (LFE (env R) 75 n0 ro rt) 51 [.cell 6 25] (sub b75 [1,1,0,1,0,0,1,1]) [.loop (sub b75 [1,1,0,1,0,0]),.blk 1,.seq (sub b75 [1,1,1])] [(0,t0),(2,t2),(4,t4),(6,t6),(7,t7)] s QR
def P75_6 (R : RT) (n0 ro rt : Nat) (t4 t6 : AV) (s : Sto) (QR : QT) : Prop := Wp (env R) (LFE (env R) 75 n0 ro rt) 51 [.cell 6 25] (sub b75 [1,1,1,1]) [] [(4,t4),(6,t6)] s QR
theorem p75_0 {R : RT} {n0 ro rt : Nat} {t0 t1 t2 : AV} {s : Sto} {QR : QT} (h :
 wBox s t1 fun a4 s1x0 =>
 wNew s1x0 [(I64 0),(SS []),(I64 0),(.capped [])] fun a6 s1x1 =>
 wFad s1x1 a4 1 fun a8 =>
 wLd (env R) s1x1 none a8 fun a9 =>
 wStr .eql a9 (SS [65,110,121]) fun a11 =>
 wCond a11 (
 wCall (env R) (LFE (env R) 75 n0 ro rt) (.func (.func 33) [] []) [] s1x1 fun a12 s1x2 =>
 wSt (LFE (env R) 75 n0 ro rt) s1x2 4 a6 a12 fun s1x3 =>
 wLd (env R) s1x3 (some 4) a6 fun r =>
 QR r s1x3) (
 wStr .eql a9 (SS [78,101,118,101,114]) fun a14 =>
 wCond a14 (
 wCall (env R) (LFE (env R) 75 n0 ro rt) (.func (.func 50) [] []) [] s1x1 fun a15 s1x4 =>
 wSt (LFE (env R) 75 n0 ro rt) s1x4 4 a6 a15 fun s1x5 =>
 wLd (env R) s1x5 (some 4) a6 fun rx6 =>
 QR rx6 s1x5) (
 P75_1 R n0 ro rt t0 t2 a4 a6 s1x1 QR))) : P75_0 R n0 ro rt t0 t1 t2 s QR :=
  wpc_mp (lv := lv75) (ct := ct75) _ _ _ _ h (by kernel_rfl)
theorem p75_1 {R : RT} {n0 ro rt : Nat} {t0 t2 t4 t6 : AV} {s : Sto} {QR : QT} (h :
 wLen s t2 fun a17 =>
 wInt .i64 .sub a17 (I64 1) fun a18 =>
 P75_2 R n0 ro rt t0 t2 t4 t6 a18 s QR) : P75_1 R n0 ro rt t0 t2 t4 t6 s QR :=
  wpc_mp (lv := lv75) (ct := ct75) _ _ _ _ h (by kernel_rfl)
theorem p75_2 {R : RT} {n0 ro rt : Nat} {t0 t2 t4 t6 t7 : AV} {s : Sto} {QR : QT} (h :
 wInt .i64 .geq t7 (I64 0) fun a20 =>
 wCond a20 (
 P75_3 R n0 ro rt t0 t2 t4 t6 t7 s QR) (
 P75_4 R n0 ro rt t0 t4 t6 s QR)) : P75_2 R n0 ro rt t0 t2 t4 t6 t7 s QR :=
  wpl_mp (lv := lv75) (ct := ct75) _ _ _ _ h (by kernel_rfl)
theorem p75_3 {R : RT} {n0 ro rt : Nat} {t0 t2 t4 t6 t7 : AV} {s : Sto} {QR : QT} (h :
 wIdx s 1 t2 t7 fun a25 =>
 wLd (env R) s none a25 fun a26 =>
 wFad s t4 1 fun a27 =>
 wLd (env R) s none a27 fun a28 =>
 wStr .eql a26 a28 fun a29 =>
 wCond a29 (
 wLen s t2 fun a31 =>
 wInt .i64 .sub a31 (I64 1) fun a32 =>
 wInt .i64 .sub a32 t7 fun a34 =>
 wCall (env R) (LFE (env R) 75 n0 ro rt) (.func (.func 35) [] []) [a34] s fun a35 s1x0 =>
 wSt (LFE (env R) 75 n0 ro rt) s1x0 4 t6 a35 fun s1x1 =>
 wLd (env R) s1x1 (some 4) t6 fun r =>
 QR r s1x1) (
 P75_5 R n0 ro rt t0 t2 t4 t6 t7 s QR)) : P75_3 R n0 ro rt t0 t2 t4 t6 t7 s QR :=
  wpc_mp (lv := lv75) (ct := ct75) _ _ _ _ h (by kernel_rfl)
theorem p75_4 {R : RT} {n0 ro rt : Nat} {t0 t4 t6 : AV} {s : Sto} {QR : QT} (h :
 wFad s t4 1 fun a36 =>
 wLd (env R) s none a36 fun a37 =>
 wCall (env R) (LFE (env R) 75 n0 ro rt) (.func (.func 67) [] []) [a37] s fun a38 s1x0 =>
 wNot a38 fun a39 =>
 wGK a39 false s1x0 (fun K => wFad s1x0 t4 1 fun a41 => K a41 s1x0) fun a41x1 s1x2 =>
 wGK a39 false s1x2 (fun K => wLd (env R) s1x2 none a41x1 fun a42 => K a42 s1x2) fun a42x3 s1x4 =>
 wGK a39 false s1x4 (fun K => wCall (env R) (LFE (env R) 75 n0 ro rt) (.func (.func 68) [] []) [a42x3] s1x4 fun a43 s1x5 => K a43 s1x5) fun a43x6 s1x7 =>
 wPick a39 (BB true) a43x6 fun a44 =>
 wCond a44 (
 wLd (env R) s1x7 (some 4) t4 fun a46 =>
 wCall (env R) (LFE (env R) 75 n0 ro rt) (.func (.func 76) [] []) [t0,a46] s1x7 fun a47 s1x8 =>
 wSt (LFE (env R) 75 n0 ro rt) s1x8 4 t6 a47 fun s1x9 =>
 wLd (env R) s1x9 (some 4) t6 fun r =>
 QR r s1x9) (
 P75_6 R n0 ro rt t4 t6 s1x7 QR)) : P75_4 R n0 ro rt t0 t4 t6 s QR :=
  wpc_mp (lv := lv75) (ct := ct75) _ _ _ _ h (by kernel_rfl)
theorem p75_5 {R : RT} {n0 ro rt : Nat} {t0 t2 t4 t6 t7 : AV} {s : Sto} {QR : QT} (h :
 wInt .i64 .sub t7 (I64 1) fun a22 =>
 P75_2 R n0 ro rt t0 t2 t4 t6 a22 s QR) : P75_5 R n0 ro rt t0 t2 t4 t6 t7 s QR :=
  wpc_mp (lv := lv75) (ct := ct75) _ _ _ _ h (by kernel_rfl)
theorem p75_6 {R : RT} {n0 ro rt : Nat} {t4 t6 : AV} {s : Sto} {QR : QT} (h :
 wFad s t4 1 fun a48 =>
 wLd (env R) s none a48 fun a49 =>
 wCall (env R) (LFE (env R) 75 n0 ro rt) (.func (.func 36) [] []) [a49,(.capped [])] s fun a50 s1x0 =>
 wSt (LFE (env R) 75 n0 ro rt) s1x0 4 t6 a50 fun s1x1 =>
 wLd (env R) s1x1 (some 4) t6 fun r =>
 QR r s1x1) : P75_6 R n0 ro rt t4 t6 s QR :=
  wpc_mp (lv := lv75) (ct := ct75) _ _ _ _ h (by kernel_rfl)
theorem m75 {R : RT} {t0 t1 t2 : AV} {L : Lim} {s : Sto} {Post : AV → Sto → Prop} (hn : noIdL [t0,t1,t2] = false) (h : P75_0 R 0 L.ro L.rt t0 t1 t2 s (QM (L.rr 75) s.bs.length Post)) : ∃ v s',Post v s' ∧ CallE (env R) L 75 [t0,t1,t2] s v s' :=
  call_im (fn := Tryz.f75) (body := b75) Tryz.func75 (by kernel_rfl) (by kernel_rfl) (by kernel_rfl) (Nat.le_of_ble_eq_true (by kernel_rfl)) hn (mpK h (by kernel_rfl))
/-! 76: (*telpher/telref1.converter).fail -/
noncomputable def b76 : Code := Tryz.f76.body.getD .skip
def lv76 (f : Nat) : List Nat := bif Nat.blt f 2 then (
 bif Nat.beq f 1 then [0,3,4] else []) else (
 bif Nat.blt f 3 then (
  bif Nat.beq f 2 then [0,3,4,10] else []) else (
  bif Nat.beq f 3 then [4] else []))
def ct76 (f : Nat) : Bool := false
def P76_0 (R : RT) (n0 ro rt : Nat) (t0 t1 : AV) (s : Sto) (QR : QT) : Prop := Wp (env R) (LFE (env R) 76 n0 ro rt) 18 [.cell 4 25] (sub b76 []) [] [(0,t0),(1,t1)] s QR
def P76_1 (R : RT) (n0 ro rt : Nat) (t4 : AV) (s : Sto) (QR : QT) : Prop := Wp (env R) (LFE (env R) 76 n0 ro rt) 18 [.cell 4 25] (sub b76 [1,1]) [] [(4,t4)] s QR
theorem p76_0 {R : RT} {n0 ro rt : Nat} {t0 t1 : AV} {s : Sto} {QR : QT} (h :
 wBox s t1 fun a3 s1x0 =>
 wNew s1x0 [(I64 0),(SS []),(I64 0),(.capped [])] fun a4 s1x1 =>
 wNil s1x1 t0 fun a6 =>
 wFad s1x1 a6 0 fun a7 =>
 wFad s1x1 a7 0 fun a8 =>
 wLd (env R) s1x1 none a8 fun a9 =>
 wInt .i64 .eql a9 (I64 0) fun a10 =>
 wCond a10 (
 wFad s1x1 a3 3 fun a12 =>
 wLd (env R) s1x1 none a12 fun a13 =>
 wBuild [(I64 0),(I64 0)] [(0,1,(I64 2)),(1,1,a13)] fun a14 =>
 wNil s1x1 t0 fun a15 =>
 wFad s1x1 a15 0 fun a16 =>
 wSt (LFE (env R) 76 n0 ro rt) s1x1 2 a16 a14 fun s1x2 =>
 P76_1 R n0 ro rt a4 s1x2 QR) (
 P76_1 R n0 ro rt a4 s1x1 QR)) : P76_0 R n0 ro rt t0 t1 s QR :=
  wpc_mp (lv := lv76) (ct := ct76) _ _ _ _ h (by kernel_rfl)
theorem p76_1 {R : RT} {n0 ro rt : Nat} {t4 : AV} {s : Sto} {QR : QT} (h :
 wBuild [(I64 0),(SS []),(I64 0),(.capped [])] [] fun a17 =>
 wSt (LFE (env R) 76 n0 ro rt) s 4 t4 a17 fun s1x0 =>
 wLd (env R) s1x0 (some 4) t4 fun r =>
 QR r s1x0) : P76_1 R n0 ro rt t4 s QR :=
  wpc_mp (lv := lv76) (ct := ct76) _ _ _ _ h (by kernel_rfl)
theorem m76 {R : RT} {t0 t1 : AV} {L : Lim} {s : Sto} {Post : AV → Sto → Prop} (hn : noIdL [t0,t1] = false) (h : P76_0 R 0 L.ro L.rt t0 t1 s (QM (L.rr 76) s.bs.length Post)) : ∃ v s',Post v s' ∧ CallE (env R) L 76 [t0,t1] s v s' :=
  call_im (fn := Tryz.f76) (body := b76) Tryz.func76 (by kernel_rfl) (by kernel_rfl) (by kernel_rfl) (Nat.le_of_ble_eq_true (by kernel_rfl)) hn (mpK h (by kernel_rfl))
/-! 77: (*telpher/telref1.converter).all -/
noncomputable def b77 : Code := Tryz.f77.body.getD .skip
def lv77 (f : Nat) : List Nat := bif Nat.blt f 4 then (
 bif Nat.blt f 2 then (
  bif Nat.beq f 1 then [0,1,2] else []) else (
  bif Nat.blt f 3 then (
   bif Nat.beq f 2 then [0,1,2,7] else []) else (
   bif Nat.beq f 3 then [0,1,2,7,8] else []))) else (
 bif Nat.blt f 5 then (
  bif Nat.beq f 4 then [0,1,2,7,8] else []) else (
  bif Nat.blt f 6 then (
   bif Nat.beq f 5 then [0,1,2,7,8] else []) else (
   bif Nat.beq f 6 then [7] else [])))
def ct77 (f : Nat) : Bool := false
def P77_0 (R : RT) (n0 ro rt : Nat) (t0 t1 t2 : AV) (s : Sto) (QR : QT) : Prop := Wp (env R) (LFE (env R) 77 n0 ro rt) 26 [.tmp 6] (sub b77 []) [] [(0,t0),(1,t1),(2,t2)] s QR
def P77_1 (R : RT) (n0 ro rt : Nat) (t0 t1 t2 t7 t8 : AV) (s : Sto) (QR : QT) : Prop := Wp (env R) (LFE (env R) 77 n0 ro rt) 26 [.tmp 6] (.loop (sub b77 [1,1,0,1,0,0])) [.blk 0,.seq (sub b77 [1,1,1])] [(0,t0),(1,t1),(2,t2),(7,t7),(8,t8)] s QR
def P77_2 (R : RT) (n0 ro rt : Nat) (t0 t1 t2 t7 t8 : AV) (s : Sto) (QR : QT) : Prop := Wp (env R) (LFE (env R) 77 n0 ro rt) 26 [.tmp 6] (sub b77 [1,1,0,1,0,0,1]) [.loop (sub b77 [1,1,0,1,0,0]),.blk 0,.seq (sub b77 [1,1,1])] [(0,t0),(1,t1),(2,t2),(7,t7),(8,t8)] s QR
def P77_3 (R : RT) (n0 ro rt : Nat) (t7 : AV) (s : Sto) (QR : QT) : Prop := Wp (env R) (LFE (env R) 77 n0 ro rt) 26 [.tmp 6] (sub b77 [1,1,1]) [] [(7,t7)] s QR
def P77_4 (R : RT) (n0 ro rt : Nat) (t0 t1 t2 t7 t8 : AV) (s : Sto) (QR : QT) : Prop := Wp (env R) (LFE (env R) 77 n0 ro rt) 26 [.tmp 6] (sub b77 [1,1,0,1,0,0,1,1]) [.loop (sub b77 [1,1,0,1,0,0]),.blk 0,.seq (sub b77 [1,1,1])] [(0,t0),(1,t1),(2,t2),(7,t7),(8,t8)] s QR
theorem p77_0 {R : RT} {n0 ro rt : Nat} {t0 t1 t2 : AV} {s : Sto} {QR : QT} (h :
 P77_1 R n0 ro rt t0 t1 t2 (.capped []) (I64 0) s QR) : P77_0 R n0 ro rt t0 t1 t2 s QR :=
  wpc_mp (lv := lv77) (ct := ct77) _ _ _ _ h (by kernel_rfl)
theorem p77_1 {R : RT} {n0 ro rt : Nat} {t0 t1 t2 t7 t8 : AV} {s : Sto} {QR : QT} (h :
 wLen s t1 fun a11 =>
 wInt .i64 .lss t8 a11 fun a12 =>
 wCond a12 (
 P77_2 R n0 ro rt t0 t1 t2 t7 t8 s QR) (
 P77_3 R n0 ro rt t7 s QR)) : P77_1 R n0 ro rt t0 t1 t2 t7 t8 s QR :=
  wpl_mp (lv := lv77) (ct := ct77) _ _ _ _ h (by kernel_rfl)
theorem p77_2 {R : RT} {n0 ro rt : Nat} {t0 t1 t2 t7 t8 : AV} {s : Sto} {QR : QT} (h :
 wIdx s 4 t1 t8 fun a19 =>
 wLd (env R) s (some 4) a19 fun a20 =>
 wCall (env R) (LFE (env R) 77 n0 ro rt) (.func (.func 47) [] []) [t0,a20,t2] s fun a22 s1x0 =>
 wBsl false s1x0 4 [(I64 0),(SS []),(I64 0),(.capped [])] 1 [(0,4,a22)] fun a23 s1x1 =>
(4 = 4 ∧ 4 ≠ 0) ∧ wApp false (LFE (env R) 77 n0 ro rt) s1x1 25 4 56 t7 a23 fun a24 s1x2 =>
 P77_4 R n0 ro rt t0 t1 t2 a24 t8 s1x2 QR) : P77_2 R n0 ro rt t0 t1 t2 t7 t8 s QR :=
  wpc_mp (lv := lv77) (ct := ct77) _ _ _ _ h (by kernel_rfl)
theorem p77_3 {R : RT} {n0 ro rt : Nat} {t7 : AV} {s : Sto} {QR : QT} (h :
 QR t7 s) : P77_3 R n0 ro rt t7 s QR :=
  wpc_mp (lv := lv77) (ct := ct77) _ _ _ _ h (by kernel_rfl)
theorem p77_4 {R : RT} {n0 ro rt : Nat} {t0 t1 t2 t7 t8 : AV} {s : Sto} {QR : QT} (h :
 wInt .i64 .add t8 (I64 1) fun a14 =>
 P77_1 R n0 ro rt t0 t1 t2 t7 a14 s QR) : P77_4 R n0 ro rt t0 t1 t2 t7 t8 s QR :=
  wpc_mp (lv := lv77) (ct := ct77) _ _ _ _ h (by kernel_rfl)
theorem m77 {R : RT} {t0 t1 t2 : AV} {L : Lim} {s : Sto} {Post : AV → Sto → Prop} (hn : noIdL [t0,t1,t2] = false) (h : P77_0 R 0 L.ro L.rt t0 t1 t2 s (QM (L.rr 77) s.bs.length Post)) : ∃ v s',Post v s' ∧ CallE (env R) L 77 [t0,t1,t2] s v s' :=
  call_im (fn := Tryz.f77) (body := b77) Tryz.func77 (by kernel_rfl) (by kernel_rfl) (by kernel_rfl) (Nat.le_of_ble_eq_true (by kernel_rfl)) hn (mpK h (by kernel_rfl))
/-! 15: telpher/telref1.TermEqual -/
noncomputable def b15 : Code := Tryz.f15.body.getD .skip
def lv15 (f : Nat) : List Nat := bif Nat.beq f 1 then [2,3] else []
def ct15 (f : Nat) : Bool := false
def P15_0 (R : RT) (n0 ro rt : Nat) (t0 t1 : AV) (s : Sto) (QR : QT) : Prop := Wp (env R) (LFE (env R) 15 n0 ro rt) 9 [.tmp 4] (sub b15 []) [] [(0,t0),(1,t1)] s QR
theorem p15_0 {R : RT} {n0 ro rt : Nat} {t0 t1 : AV} {s : Sto} {QR : QT} (h :
 wBox s t0 fun a2 s1x0 =>
 wBox s1x0 t1 fun a3 s1x1 =>
 wLd (env R) s1x1 (some 4) a2 fun a5 =>
 wLd (env R) s1x1 (some 4) a3 fun a6 =>
 wCall (env R) (LFE (env R) 15 n0 ro rt) (.func (.func 43) [] []) [a5,a6] s1x1 fun a7 s1x2 =>
 wInt .i64 .eql a7 (I64 0) fun a8 =>
 QR a8 s1x2) : P15_0 R n0 ro rt t0 t1 s QR :=
  wpc_mp (lv := lv15) (ct := ct15) _ _ _ _ h (by kernel_rfl)
theorem e15 {R : RT} {t0 t1 : AV} {u0 u1 : AV} {Post : AV → Prop} (hcl : closeL [] 0 0 [t0,t1] = some [u0,u1]) (h : P15_0 R 0 0 0 u0 u1 ⟨[],[]⟩ (QP Post)) : PureC (env R) 15 [t0,t1] Post :=
  call_rd (fn := Tryz.f15) (body := b15) Tryz.func15 (by kernel_rfl) (by kernel_rfl) (by kernel_rfl) (Nat.le_of_ble_eq_true (by kernel_rfl)) hcl (mpK h (by kernel_rfl))
/-! 43: telpher/telref1.TermCompare -/
noncomputable def b43 : Code := Tryz.f43.body.getD .skip
def lv43 (f : Nat) : List Nat := bif Nat.blt f 10 then (
 bif Nat.blt f 6 then (
  bif Nat.blt f 2 then (
   bif Nat.beq f 1 then [2,3] else []) else (
   bif Nat.blt f 4 then (
    bif Nat.beq f 2 then [2,3,7] else []) else (
    bif Nat.beq f 4 then [2,3,19] else []))) else (
  bif Nat.blt f 8 then (
   bif Nat.beq f 6 then [2,3,31] else []) else (
   bif Nat.blt f 9 then (
    bif Nat.beq f 8 then [2,3,43] else []) else (
    bif Nat.beq f 9 then [2,3] else [])))) else (
 bif Nat.blt f 13 then (
  bif Nat.blt f 11 then (
   bif Nat.beq f 10 then [2,3,5] else []) else (
   bif Nat.blt f 12 then (
    bif Nat.beq f 11 then [2,3,5] else []) else (
    bif Nat.beq f 12 then [2,3,5] else []))) else (
  bif Nat.blt f 14 then (
   bif Nat.beq f 13 then [2,3,5,6] else []) else (
   bif Nat.blt f 15 then (
    bif Nat.beq f 14 then [2,3,5,6,78] else []) else (
    bif Nat.beq f 15 then [] else []))))
def ct43 (f : Nat) : Bool := false
def P43_0 (R : RT) (n0 ro rt : Nat) (t0 t1 : AV) (s : Sto) (QR : QT) : Prop := Wp (env R) (LFE (env R) 43 n0 ro rt) 80 [.tmp 4] (sub b43 []) [] [(0,t0),(1,t1)] s QR
def P43_1 (R : RT) (n0 ro rt : Nat) (t2 t3 : AV) (s : Sto) (QR : QT) : Prop := Wp (env R) (LFE (env R) 43 n0 ro rt) 80 [.tmp 4] (sub b43 [1,1]) [] [(2,t2),(3,t3)] s QR
def P43_2 (R : RT) (n0 ro rt : Nat) (t2 t3 t5 : AV) (s : Sto) (QR : QT) : Prop := Wp (env R) (LFE (env R) 43 n0 ro rt) 80 [.tmp 4] (.loop (sub b43 [1,1,0,1,0,0])) [.blk 1,.seq (sub b43 [1,1,1])] [(2,t2),(3,t3),(5,t5)] s QR
def P43_3 (R : RT) (n0 ro rt : Nat) (t2 t3 t5 : AV) (s : Sto) (QR : QT) : Prop := Wp (env R) (LFE (env R) 43 n0 ro rt) 80 [.tmp 4] (sub b43 [1,1,0,1,0,0,1]) [.loop (sub b43 [1,1,0,1,0,0]),.blk 1,.seq (sub b43 [1,1,1])] [(2,t2),(3,t3),(5,t5)] s QR
def P43_4 (R : RT) (n0 ro rt : Nat) (s : Sto) (QR : QT) : Prop := Wp (env R) (LFE (env R) 43 n0 ro rt) 80 [.tmp 4] (sub b43 [1,1,1]) [] [] s QR
def P43_5 (R : RT) (n0 ro rt : Nat) (t2 t3 t5 : AV) (s : Sto) (QR : QT) : Prop := Wp (env R) (LFE (env R) 43 n0 ro rt) 80 [.tmp 4] (sub b43 [1,1,0,1,0,0,1,1]) [.loop (sub b43 [1,1,0,1,0,0]),.blk 1,.seq (sub b43 [1,1,1])] [(2,t2),(3,t3),(5,t5)] s QR
theorem p43_0 {R : RT} {n0 ro rt : Nat} {t0 t1 : AV} {s : Sto} {QR : QT} (h :
 wBox s t0 fun a2 s1x0 =>
 wBox s1x0 t1 fun a3 s1x1 =>
 wFad s1x1 a2 0 fun a8 =>
 wLd (env R) s1x1 none a8 fun a9 =>
 wFad s1x1 a3 0 fun a10 =>
 wLd (env R) s1x1 none a10 fun a11 =>
 wInt .i64 .neq a9 a11 fun a12 =>
 wCond a12 (
 wFad s1x1 a2 0 fun a13 =>
 wLd (env R) s1x1 none a13 fun a14 =>
 wFad s1x1 a3 0 fun a15 =>
 wLd (env R) s1x1 none a15 fun a16 =>
 wInt .i64 .lss a14 a16 fun a17 =>
 wCall (env R) (LFE (env R) 43 n0 ro rt) (.func (.func 71) [] []) [a17] s1x1 fun a18 s1x2 =>
 QR a18 s1x2) (
 wFad s1x1 a2 1 fun a20 =>
 wLd (env R) s1x1 none a20 fun a21 =>
 wFad s1x1 a3 1 fun a22 =>
 wLd (env R) s1x1 none a22 fun a23 =>
 wStr .neq a21 a23 fun a24 =>
 wCond a24 (
 wFad s1x1 a2 1 fun a25 =>
 wLd (env R) s1x1 none a25 fun a26 =>
 wFad s1x1 a3 1 fun a27 =>
 wLd (env R) s1x1 none a27 fun a28 =>
 wStr .lss a26 a28 fun a29 =>
 wCall (env R) (LFE (env R) 43 n0 ro rt) (.func (.func 71) [] []) [a29] s1x1 fun a30 s1x3 =>
 QR a30 s1x3) (
 wFad s1x1 a2 2 fun a32 =>
 wLd (env R) s1x1 none a32 fun a33 =>
 wFad s1x1 a3 2 fun a34 =>
 wLd (env R) s1x1 none a34 fun a35 =>
 wInt .i64 .neq a33 a35 fun a36 =>
 wCond a36 (
 wFad s1x1 a2 2 fun a37 =>
 wLd (env R) s1x1 none a37 fun a38 =>
 wFad s1x1 a3 2 fun a39 =>
 wLd (env R) s1x1 none a39 fun a40 =>
 wInt .i64 .lss a38 a40 fun a41 =>
 wCall (env R) (LFE (env R) 43 n0 ro rt) (.func (.func 71) [] []) [a41] s1x1 fun a42 s1x4 =>
 QR a42 s1x4) (
 wFad s1x1 a2 3 fun a44 =>
 wLd (env R) s1x1 none a44 fun a45 =>
 wLen s1x1 a45 fun a46 =>
 wFad s1x1 a3 3 fun a47 =>
 wLd (env R) s1x1 none a47 fun a48 =>
 wLen s1x1 a48 fun a49 =>
 wInt .i64 .neq a46 a49 fun a50 =>
 wCond a50 (
 wFad s1x1 a2 3 fun a51 =>
 wLd (env R) s1x1 none a51 fun a52 =>
 wLen s1x1 a52 fun a53 =>
 wFad s1x1 a3 3 fun a54 =>
 wLd (env R) s1x1 none a54 fun a55 =>
 wLen s1x1 a55 fun a56 =>
 wInt .i64 .lss a53 a56 fun a57 =>
 wCall (env R) (LFE (env R) 43 n0 ro rt) (.func (.func 71) [] []) [a57] s1x1 fun a58 s1x5 =>
 QR a58 s1x5) (
 P43_1 R n0 ro rt a2 a3 s1x1 QR))))) : P43_0 R n0 ro rt t0 t1 s QR :=
  wpc_mp (lv := lv43) (ct := ct43) _ _ _ _ h (by kernel_rfl)
theorem p43_1 {R : RT} {n0 ro rt : Nat} {t2 t3 : AV} {s : Sto} {QR : QT} (h :
 P43_2 R n0 ro rt t2 t3 (I64 0) s QR) : P43_1 R n0 ro rt t2 t3 s QR :=
  wpc_mp (lv := lv43) (ct := ct43) _ _ _ _ h (by kernel_rfl)
theorem p43_2 {R : RT} {n0 ro rt : Nat} {t2 t3 t5 : AV} {s : Sto} {QR : QT} (h :
 wFad s t2 3 fun a60 =>
 wLd (env R) s none a60 fun a61 =>
 wLen s a61 fun a62 =>
 wInt .i64 .lss t5 a62 fun a63 =>
 wCond a63 (
 P43_3 R n0 ro rt t2 t3 t5 s QR) (
 P43_4 R n0 ro rt  s QR)) : P43_2 R n0 ro rt t2 t3 t5 s QR :=
  wpl_mp (lv := lv43) (ct := ct43) _ _ _ _ h (by kernel_rfl)
theorem p43_3 {R : RT} {n0 ro rt : Nat} {t2 t3 t5 : AV} {s : Sto} {QR : QT} (h :
 wFad s t2 3 fun a66 =>
 wLd (env R) s none a66 fun a67 =>
 wIdx s 4 a67 t5 fun a69 =>
 wLd (env R) s (some 4) a69 fun a70 =>
 wFad s t3 3 fun a71 =>
 wLd (env R) s none a71 fun a72 =>
 wIdx s 4 a72 t5 fun a74 =>
 wLd (env R) s (some 4) a74 fun a75 =>
 wCall (env R) (LFE (env R) 43 n0 ro rt) (.func (.func 43) [] []) [a70,a75] s fun a76 s1x0 =>
 wInt .i64 .neq a76 (I64 0) fun a78 =>
 wCond a78 (
 QR a76 s1x0) (
 P43_5 R n0 ro rt t2 t3 t5 s1x0 QR)) : P43_3 R n0 ro rt t2 t3 t5 s QR :=
  wpc_mp (lv := lv43) (ct := ct43) _ _ _ _ h (by kernel_rfl)
theorem p43_4 {R : RT} {n0 ro rt : Nat} {s : Sto} {QR : QT} (h :
 QR (I64 0) s) : P43_4 R n0 ro rt  s QR :=
  wpc_mp (lv := lv43) (ct := ct43) _ _ _ _ h (by kernel_rfl)
theorem p43_5 {R : RT} {n0 ro rt : Nat} {t2 t3 t5 : AV} {s : Sto} {QR : QT} (h :
 wInt .i64 .add t5 (I64 1) fun a65 =>
 P43_2 R n0 ro rt t2 t3 a65 s QR) : P43_5 R n0 ro rt t2 t3 t5 s QR :=
  wpc_mp (lv := lv43) (ct := ct43) _ _ _ _ h (by kernel_rfl)
theorem e43 {R : RT} {t0 t1 : AV} {u0 u1 : AV} {Post : AV → Prop} (hcl : closeL [] 0 0 [t0,t1] = some [u0,u1]) (h : P43_0 R 0 0 0 u0 u1 ⟨[],[]⟩ (QP Post)) : PureC (env R) 43 [t0,t1] Post :=
  call_rd (fn := Tryz.f43) (body := b43) Tryz.func43 (by kernel_rfl) (by kernel_rfl) (by kernel_rfl) (Nat.le_of_ble_eq_true (by kernel_rfl)) hcl (mpK h (by kernel_rfl))
/-! 71: telpher/telref1.order -/
noncomputable def b71 : Code := Tryz.f71.body.getD .skip
def lv71 (f : Nat) : List Nat := bif Nat.blt f 2 then (
 bif Nat.beq f 1 then [0] else []) else (
 bif Nat.blt f 3 then (
  bif Nat.beq f 2 then [3] else []) else (
  bif Nat.beq f 3 then [] else []))
def ct71 (f : Nat) : Bool := false
def P71_0 (R : RT) (n0 ro rt : Nat) (t0 : AV) (s : Sto) (QR : QT) : Prop := Wp (env R) (LFE (env R) 71 n0 ro rt) 4 [.tmp 2] (sub b71 []) [] [(0,t0)] s QR
def P71_1 (R : RT) (n0 ro rt : Nat) (s : Sto) (QR : QT) : Prop := Wp (env R) (LFE (env R) 71 n0 ro rt) 4 [.tmp 2] (sub b71 [1,1]) [] [] s QR
theorem p71_0 {R : RT} {n0 ro rt : Nat} {t0 : AV} {s : Sto} {QR : QT} (h :
 wCond t0 (
 QR (I64 (-1)) s) (
 P71_1 R n0 ro rt  s QR)) : P71_0 R n0 ro rt t0 s QR :=
  wpc_mp (lv := lv71) (ct := ct71) _ _ _ _ h (by kernel_rfl)
theorem p71_1 {R : RT} {n0 ro rt : Nat} {s : Sto} {QR : QT} (h :
 QR (I64 1) s) : P71_1 R n0 ro rt  s QR :=
  wpc_mp (lv := lv71) (ct := ct71) _ _ _ _ h (by kernel_rfl)
theorem e71 {R : RT} {t0 : AV} {u0 : AV} {Post : AV → Prop} (hcl : closeL [] 0 0 [t0] = some [u0]) (h : P71_0 R 0 0 0 u0 ⟨[],[]⟩ (QP Post)) : PureC (env R) 71 [t0] Post :=
  call_rd (fn := Tryz.f71) (body := b71) Tryz.func71 (by kernel_rfl) (by kernel_rfl) (by kernel_rfl) (Nat.le_of_ble_eq_true (by kernel_rfl)) hcl (mpK h (by kernel_rfl))
/-! 25: telpher/telmake.Fault -/
noncomputable def b25 : Code := Tryz.f25.body.getD .skip
def lv25 (f : Nat) : List Nat := bif Nat.beq f 1 then [2,3] else []
def ct25 (f : Nat) : Bool := false
def P25_0 (R : RT) (n0 ro rt : Nat) (t0 t1 : AV) (s : Sto) (QR : QT) : Prop := Wp (env R) (LFE (env R) 25 n0 ro rt) 17 [.tmp 4] (sub b25 []) [] [(0,t0),(1,t1)] s QR
theorem p25_0 {R : RT} {n0 ro rt : Nat} {t0 t1 : AV} {s : Sto} {QR : QT} (h :
 wBox s t0 fun a2 s1x0 =>
 wBox s1x0 t1 fun a3 s1x1 =>
 wFad s1x1 a2 0 fun a5 =>
 wLd (env R) s1x1 none a5 fun a6 =>
 wFad s1x1 a3 0 fun a7 =>
 wLd (env R) s1x1 none a7 fun a8 =>
 wInt .i64 .eql a6 a8 fun a9 =>
 wGK a9 true s1x1 (fun K => wFad s1x1 a2 1 fun a11 => K a11 s1x1) fun a11x2 s1x3 =>
 wGK a9 true s1x3 (fun K => wLd (env R) s1x3 none a11x2 fun a12 => K a12 s1x3) fun a12x4 s1x5 =>
 wGK a9 true s1x5 (fun K => wFad s1x5 a3 1 fun a13 => K a13 s1x5) fun a13x6 s1x7 =>
 wGK a9 true s1x7 (fun K => wLd (env R) s1x7 none a13x6 fun a14 => K a14 s1x7) fun a14x8 s1x9 =>
 wGK a9 true s1x9 (fun K => wInt .i64 .eql a12x4 a14x8 fun a15 => K a15 s1x9) fun a15x10 s1x11 =>
 wPick a9 a15x10 (BB false) fun a16 =>
 QR a16 s1x11) : P25_0 R n0 ro rt t0 t1 s QR :=
  wpc_mp (lv := lv25) (ct := ct25) _ _ _ _ h (by kernel_rfl)
theorem e25 {R : RT} {t0 t1 : AV} {u0 u1 : AV} {Post : AV → Prop} (hcl : closeL [] 0 0 [t0,t1] = some [u0,u1]) (h : P25_0 R 0 0 0 u0 u1 ⟨[],[]⟩ (QP Post)) : PureC (env R) 25 [t0,t1] Post :=
  call_rd (fn := Tryz.f25) (body := b25) Tryz.func25 (by kernel_rfl) (by kernel_rfl) (by kernel_rfl) (Nat.le_of_ble_eq_true (by kernel_rfl)) hcl (mpK h (by kernel_rfl))
/-! 20: telpher/telmake.AnyNode -/
noncomputable def b20 : Code := Tryz.f20.body.getD .skip
def lv20 (f : Nat) : List Nat := bif Nat.blt f 10 then (
 bif Nat.blt f 5 then (
  bif Nat.blt f 2 then (
   bif Nat.beq f 1 then [0,1,2,6] else []) else (
   bif Nat.blt f 3 then (
    bif Nat.beq f 2 then [0,1,2,6,7] else []) else (
    bif Nat.beq f 3 then [0,1,2,6,7,13] else []))) else (
  bif Nat.blt f 7 then (
   bif Nat.beq f 5 then [0,1,2,6,7,38] else []) else (
   bif Nat.blt f 9 then (
    bif Nat.beq f 7 then [0,1,2,6,7,54] else []) else (
    bif Nat.beq f 9 then [0,1,2,6,69] else [])))) else (
 bif Nat.blt f 13 then (
  bif Nat.blt f 11 then (
   bif Nat.beq f 10 then [0,1,2,6] else []) else (
   bif Nat.blt f 12 then (
    bif Nat.beq f 11 then [0,1,2,6,8] else []) else (
    bif Nat.beq f 12 then [0,1,2,6,8,9] else []))) else (
  bif Nat.blt f 15 then (
   bif Nat.blt f 14 then (
    bif Nat.beq f 13 then [0,1,2,6,8,9,10] else []) else (
    bif Nat.beq f 14 then [0,1,2,6,8,9,10] else [])) else (
   bif Nat.blt f 16 then (
    bif Nat.beq f 15 then [0,1,2,6,8,9,10] else []) else (
    bif Nat.beq f 16 then [6,8] else []))))
def ct20 (f : Nat) : Bool := false
def P20_0 (R : RT) (n0 ro rt : Nat) (t0 t1 t2 : AV) (s : Sto) (QR : QT) : Prop := Wp (env R) (LFE (env R) 20 n0 ro rt) 99 [.cell 6 49] (sub b20 []) [] [(0,t0),(1,t1),(2,t2)] s QR
def P20_1 (R : RT) (n0 ro rt : Nat) (t0 t1 t2 t6 : AV) (s : Sto) (QR : QT) : Prop := Wp (env R) (LFE (env R) 20 n0 ro rt) 99 [.cell 6 49] (sub b20 [1,1]) [] [(0,t0),(1,t1),(2,t2),(6,t6)] s QR
def P20_2 (R : RT) (n0 ro rt : Nat) (t0 t1 t2 t6 t8 t9 t10 : AV) (s : Sto) (QR : QT) : Prop := Wp (env R) (LFE (env R) 20 n0 ro rt) 99 [.cell 6 49] (.loop (sub b20 [1,1,1,1,0,1,0,0])) [.blk 1,.seq (sub b20 [1,1,1,1,1])] [(0,t0),(1,t1),(2,t2),(6,t6),(8,t8),(9,t9),(10,t10)] s QR
def P20_3 (R : RT) (n0 ro rt : Nat) (t0 t1 t2 t6 t8 t9 t10 : AV) (s : Sto) (QR : QT) : Prop := Wp (env R) (LFE (env R) 20 n0 ro rt) 99 [.cell 6 49] (sub b20 [1,1,1,1,0,1,0,0,1]) [.loop (sub b20 [1,1,1,1,0,1,0,0]),.blk 1,.seq (sub b20 [1,1,1,1,1])] [(0,t0),(1,t1),(2,t2),(6,t6),(8,t8),(9,t9),(10,t10)] s QR
def P20_4 (R : RT) (n0 ro rt : Nat) (t6 t8 : AV) (s : Sto) (QR : QT) : Prop := Wp (env R) (LFE (env R) 20 n0 ro rt) 99 [.cell 6 49] (sub b20 [1,1,1,1,1]) [] [(6,t6),(8,t8)] s QR
def P20_5 (R : RT) (n0 ro rt : Nat) (t0 t1 t2 t6 t8 t9 t10 : AV) (s : Sto) (QR : QT) : Prop := Wp (env R) (LFE (env R) 20 n0 ro rt) 99 [.cell 6 49] (sub b20 [1,1,1,1,0,1,0,0,1,1]) [.loop (sub b20 [1,1,1,1,0,1,0,0]),.blk 1,.seq (sub b20 [1,1,1,1,1])] [(0,t0),(1,t1),(2,t2),(6,t6),(8,t8),(9,t9),(10,t10)] s QR
theorem p20_0 {R : RT} {n0 ro rt : Nat} {t0 t1 t2 : AV} {s : Sto} {QR : QT} (h :
 wNew s [(I64 0),(SS []),(.capped []),(I64 0)] fun a6 s1x0 =>
 wCall (env R) (LFE (env R) 20 n0 ro rt) (.func (.func 44) [] []) [t0,(I64 12)] s1x0 fun a12 s1x1 =>
 wGK t2 true s1x1 (fun K => K a12 s1x1) fun a16 s1x2 =>
 wGK t2 true s1x2 (fun K => wInt .i64 .eql a16 (I64 11) fun a17 => K a17 s1x2) fun a17x3 s1x4 =>
 wPick t2 a17x3 (BB false) fun a18 =>
 wCond a18 (
 wCall (env R) (LFE (env R) 20 n0 ro rt) (.func (.func 44) [] []) [t0,(I64 5)] s1x4 fun a20 s1x5 =>
 wLd (env R) s1x5 none (.gptr 1 0) fun a21 =>
 wLd (env R) s1x5 none (.gptr 1 0) fun a23 =>
 wLen s1x5 a23 fun a24 =>
 wCall (env R) (LFE (env R) 20 n0 ro rt) (.func (.func 44) [] []) [t0,a24] s1x5 fun a25 s1x6 =>
 wIdx s1x6 1 a21 a25 fun a26 =>
 wLd (env R) s1x6 none a26 fun a27 =>
 wLd (env R) s1x6 none (.gptr 2 0) fun a28 =>
 wLd (env R) s1x6 none (.gptr 2 0) fun a30 =>
 wLen s1x6 a30 fun a31 =>
 wCall (env R) (LFE (env R) 20 n0 ro rt) (.func (.func 44) [] []) [t0,a31] s1x6 fun a32 s1x7 =>
 wIdx s1x7 1 a28 a32 fun a33 =>
 wLd (env R) s1x7 none a33 fun a34 =>
 wBuild [(I64 0),(SS []),(.capped []),(I64 0)] [(0,1,(I64 1)),(1,1,a34)] fun a35 =>
 wBsl false s1x7 4 [(I64 0),(SS []),(.capped []),(I64 0)] 1 [(0,4,a35)] fun a36 s1x8 =>
 wBuild [(I64 0),(SS []),(.capped []),(I64 0)] [(0,1,a20),(1,1,a27),(2,1,a36)] fun a37 =>
 wSt (LFE (env R) 20 n0 ro rt) s1x7 4 a6 a37 fun s1x9 =>
(wLd (env R) s1x4 none (.gptr 1 0) fun v => eqA v a21 = true) ∧
(wLd (env R) s1x6 none (.gptr 1 0) fun vx10 => eqA vx10 a21 = true) ∧
(wLd (env R) s1x7 none (.gptr 1 0) fun vx11 => eqA vx11 a21 = true) ∧
(wLd (env R) s1x4 none (.gptr 1 0) fun vx12 => eqA vx12 a23 = true) ∧
(wLen s1x4 a23 fun vx13 => eqA vx13 a24 = true) ∧
(wIdx s1x7 1 a21 a25 fun vx14 => eqA vx14 a26 = true) ∧
(wLd (env R) s1x7 none a26 fun vx15 => eqA vx15 a27 = true) ∧
(wLd (env R) s1x4 none (.gptr 2 0) fun vx16 => eqA vx16 a28 = true) ∧
(wLd (env R) s1x5 none (.gptr 2 0) fun vx17 => eqA vx17 a28 = true) ∧
(wLd (env R) s1x7 none (.gptr 2 0) fun vx18 => eqA vx18 a28 = true) ∧
(wLd (env R) s1x4 none (.gptr 2 0) fun vx19 => eqA vx19 a30 = true) ∧
(wLd (env R) s1x5 none (.gptr 2 0) fun vx20 => eqA vx20 a30 = true) ∧
(wLen s1x4 a30 fun vx21 => eqA vx21 a31 = true) ∧
(wLen s1x5 a30 fun vx22 => eqA vx22 a31 = true) ∧
 wLd (env R) s1x9 (some 4) a6 fun r =>
 QR r s1x9) (
 wGK t2 true s1x4 (fun K => K a12 s1x4) fun a41 s1x23 =>
 wGK t2 true s1x23 (fun K => wInt .i64 .eql a41 (I64 10) fun a42 => K a42 s1x23) fun a42x24 s1x25 =>
 wPick t2 a42x24 (BB false) fun a43 =>
 wCond a43 (
 wLd (env R) s1x25 none (.gptr 1 0) fun a44 =>
 wLd (env R) s1x25 none (.gptr 1 0) fun a46 =>
 wLen s1x25 a46 fun a47 =>
 wCall (env R) (LFE (env R) 20 n0 ro rt) (.func (.func 44) [] []) [t0,a47] s1x25 fun a48 s1x26 =>
 wIdx s1x26 1 a44 a48 fun a49 =>
 wLd (env R) s1x26 none a49 fun a50 =>
 wCall (env R) (LFE (env R) 20 n0 ro rt) (.func (.func 45) [] []) [t0] s1x26 fun a52 s1x27 =>
 wBuild [(I64 0),(SS []),(.capped []),(I64 0)] [(0,1,(I64 1)),(1,1,a50),(3,1,a52)] fun a53 =>
 wSt (LFE (env R) 20 n0 ro rt) s1x27 4 a6 a53 fun s1x28 =>
(wLd (env R) s1x26 none (.gptr 1 0) fun vx29 => eqA vx29 a44 = true) ∧
(wLd (env R) s1x27 none (.gptr 1 0) fun vx30 => eqA vx30 a44 = true) ∧
(wIdx s1x27 1 a44 a48 fun vx31 => eqA vx31 a49 = true) ∧
(wLd (env R) s1x27 none a49 fun vx32 => eqA vx32 a50 = true) ∧
 wLd (env R) s1x28 (some 4) a6 fun rx33 =>
 QR rx33 s1x28) (
 wInt .i64 .lss a12 (I64 4) fun a56 =>
 wGK a56 false s1x25 (fun K => K t1 s1x25) fun a58 s1x34 =>
 wGK a56 false s1x34 (fun K => wInt .i64 .leq a58 (I64 0) fun a59 => K a59 s1x34) fun a59x35 s1x36 =>
 wPick a56 (BB true) a59x35 fun a60 =>
 wCond a60 (
 wLd (env R) s1x36 none (.gptr 2 0) fun a61 =>
 wLd (env R) s1x36 none (.gptr 2 0) fun a63 =>
 wLen s1x36 a63 fun a64 =>
 wCall (env R) (LFE (env R) 20 n0 ro rt) (.func (.func 44) [] []) [t0,a64] s1x36 fun a65 s1x37 =>
 wIdx s1x37 1 a61 a65 fun a66 =>
 wLd (env R) s1x37 none a66 fun a67 =>
 wBuild [(I64 0),(SS []),(.capped []),(I64 0)] [(0,1,(I64 1)),(1,1,a67)] fun a68 =>
 wSt (LFE (env R) 20 n0 ro rt) s1x37 4 a6 a68 fun s1x38 =>
(wLd (env R) s1x37 none (.gptr 2 0) fun vx39 => eqA vx39 a61 = true) ∧
 wLd (env R) s1x38 (some 4) a6 fun rx40 =>
 QR rx40 s1x38) (
 wInt .i64 .lss a12 (I64 6) fun a71 =>
 wCond a71 (
 wLd (env R) s1x36 none (.gptr 1 0) fun a72 =>
 wLd (env R) s1x36 none (.gptr 1 0) fun a74 =>
 wLen s1x36 a74 fun a75 =>
 wCall (env R) (LFE (env R) 20 n0 ro rt) (.func (.func 44) [] []) [t0,a75] s1x36 fun a76 s1x41 =>
 wIdx s1x41 1 a72 a76 fun a77 =>
 wLd (env R) s1x41 none a77 fun a78 =>
 wBuild [(I64 0),(SS []),(.capped []),(I64 0)] [(0,1,(I64 2)),(1,1,a78)] fun a79 =>
 wSt (LFE (env R) 20 n0 ro rt) s1x41 4 a6 a79 fun s1x42 =>
(wLd (env R) s1x41 none (.gptr 1 0) fun vx43 => eqA vx43 a72 = true) ∧
 wLd (env R) s1x42 (some 4) a6 fun rx44 =>
 QR rx44 s1x42) (
 P20_1 R n0 ro rt t0 t1 t2 a6 s1x36 QR))))) : P20_0 R n0 ro rt t0 t1 t2 s QR :=
  wpc_mp (lv := lv20) (ct := ct20) _ _ _ _ h (by kernel_rfl)
theorem p20_1 {R : RT} {n0 ro rt : Nat} {t0 t1 t2 t6 : AV} {s : Sto} {QR : QT} (h :
 wBuild [(I64 0),(SS []),(.capped []),(I64 0)] [(0,1,(I64 3))] fun a80 =>
 wNew s [(I64 0),(SS []),(.capped []),(I64 0)] fun a8 s1x0 =>
 wSt (LFE (env R) 20 n0 ro rt) s1x0 4 a8 a80 fun s1x1 =>
 wCall (env R) (LFE (env R) 20 n0 ro rt) (.func (.func 44) [] []) [t0,(I64 5)] s1x1 fun a82 s1x2 =>
 P20_2 R n0 ro rt t0 t1 t2 t6 a8 a82 (I64 0) s1x2 QR) : P20_1 R n0 ro rt t0 t1 t2 t6 s QR :=
  wpc_mp (lv := lv20) (ct := ct20) _ _ _ _ h (by kernel_rfl)
theorem p20_2 {R : RT} {n0 ro rt : Nat} {t0 t1 t2 t6 t8 t9 t10 : AV} {s : Sto} {QR : QT} (h :
 wInt .i64 .lss t10 t9 fun a85 =>
 wCond a85 (
 P20_3 R n0 ro rt t0 t1 t2 t6 t8 t9 t10 s QR) (
 P20_4 R n0 ro rt t6 t8 s QR)) : P20_2 R n0 ro rt t0 t1 t2 t6 t8 t9 t10 s QR :=
  wpl_mp (lv := lv20) (ct := ct20) _ _ _ _ h (by kernel_rfl)
theorem p20_3 {R : RT} {n0 ro rt : Nat} {t0 t1 t2 t6 t8 t9 t10 : AV} {s : Sto} {QR : QT} (h :
 wFad s t8 2 fun a88 =>
 wLd (env R) s none a88 fun a89 =>
 wInt .i64 .sub t1 (I64 1) fun a92 =>
 wCall (env R) (LFE (env R) 20 n0 ro rt) (.func (.func 20) [] []) [t0,a92,t2] s fun a94 s1x0 =>
 wBsl false s1x0 4 [(I64 0),(SS []),(.capped []),(I64 0)] 1 [(0,4,a94)] fun a95 s1x1 =>
(4 = 4 ∧ 4 ≠ 0) ∧ wApp false (LFE (env R) 20 n0 ro rt) s1x0 49 4 56 a89 a95 fun a96 s1x2 =>
 wFad s1x2 t8 2 fun a97 =>
 wSt (LFE (env R) 20 n0 ro rt) s1x2 1 a97 a96 fun s1x3 =>
(wFad s1x0 t8 2 fun v => eqA v a88 = true) ∧
(wLd (env R) s1x0 none a88 fun vx4 => eqA vx4 a89 = true) ∧
 P20_5 R n0 ro rt t0 t1 t2 t6 t8 t9 t10 s1x3 QR) : P20_3 R n0 ro rt t0 t1 t2 t6 t8 t9 t10 s QR :=
  wpc_mp (lv := lv20) (ct := ct20) _ _ _ _ h (by kernel_rfl)
theorem p20_4 {R : RT} {n0 ro rt : Nat} {t6 t8 : AV} {s : Sto} {QR : QT} (h :
 wLd (env R) s (some 4) t8 fun a98 =>
 wSt (LFE (env R) 20 n0 ro rt) s 4 t6 a98 fun s1x0 =>
 wLd (env R) s1x0 (some 4) t6 fun r =>
 QR r s1x0) : P20_4 R n0 ro rt t6 t8 s QR :=
  wpc_mp (lv := lv20) (ct := ct20) _ _ _ _ h (by kernel_rfl)
theorem p20_5 {R : RT} {n0 ro rt : Nat} {t0 t1 t2 t6 t8 t9 t10 : AV} {s : Sto} {QR : QT} (h :
 wInt .i64 .add t10 (I64 1) fun a87 =>
 P20_2 R n0 ro rt t0 t1 t2 t6 t8 t9 a87 s QR) : P20_5 R n0 ro rt t0 t1 t2 t6 t8 t9 t10 s QR :=
  wpc_mp (lv := lv20) (ct := ct20) _ _ _ _ h (by kernel_rfl)
theorem m20 {R : RT} {t0 t1 t2 : AV} {L : Lim} {s : Sto} {Post : AV → Sto → Prop} (hn : noIdL [t0,t1,t2] = false) (h : P20_0 R 0 L.ro L.rt t0 t1 t2 s (QM (L.rr 20) s.bs.length Post)) : ∃ v s',Post v s' ∧ CallE (env R) L 20 [t0,t1,t2] s v s' :=
  call_im (fn := Tryz.f20) (body := b20) Tryz.func20 (by kernel_rfl) (by kernel_rfl) (by kernel_rfl) (Nat.le_of_ble_eq_true (by kernel_rfl)) hn (mpK h (by kernel_rfl))
/-! 21: telpher/telmake.TypeNode -/
noncomputable def b21 : Code := Tryz.f21.body.getD .skip
def lv21 (f : Nat) : List Nat := bif Nat.blt f 15 then (
 bif Nat.blt f 6 then (
  bif Nat.blt f 4 then (
   bif Nat.blt f 2 then (
    bif Nat.beq f 1 then [0,1,4] else []) else (
    bif Nat.beq f 2 then [0,1,4] else [])) else (
   bif Nat.blt f 5 then (
    bif Nat.beq f 4 then [0,1,4,8] else []) else (
    bif Nat.beq f 5 then [4,8] else []))) else (
  bif Nat.blt f 9 then (
   bif Nat.blt f 7 then (
    bif Nat.beq f 6 then [0,1,4,7] else []) else (
    bif Nat.beq f 7 then [0,1,4,7,34] else [])) else (
   bif Nat.blt f 11 then (
    bif Nat.beq f 9 then [0,1,4,7,49] else []) else (
    bif Nat.blt f 13 then (
     bif Nat.beq f 11 then [0,1,4,7,52] else []) else (
     bif Nat.beq f 13 then [0,1,4,7,55] else []))))) else (
 bif Nat.blt f 19 then (
  bif Nat.blt f 17 then (
   bif Nat.blt f 16 then (
    bif Nat.beq f 15 then [0,1,4,60] else []) else (
    bif Nat.beq f 16 then [0,1,4,5,6] else [])) else (
   bif Nat.blt f 18 then (
    bif Nat.beq f 17 then [0,1,4,5,6,65] else []) else (
    bif Nat.beq f 18 then [0,1,4,5,6] else []))) else (
  bif Nat.blt f 21 then (
   bif Nat.blt f 20 then (
    bif Nat.beq f 19 then [0,1,4,6,9] else []) else (
    bif Nat.beq f 20 then [0,1,4,6,9,10] else [])) else (
   bif Nat.blt f 22 then (
    bif Nat.beq f 21 then [0,1,4,6,9,10] else []) else (
    bif Nat.blt f 23 then (
     bif Nat.beq f 22 then [0,1,4,6,9,10] else []) else (
     bif Nat.beq f 23 then [4,9] else [])))))
def ct21 (f : Nat) : Bool := false
def P21_0 (R : RT) (n0 ro rt : Nat) (t0 t1 : AV) (s : Sto) (QR : QT) : Prop := Wp (env R) (LFE (env R) 21 n0 ro rt) 87 [.cell 4 49] (sub b21 []) [] [(0,t0),(1,t1)] s QR
def P21_1 (R : RT) (n0 ro rt : Nat) (t0 t1 t4 t5 t6 : AV) (s : Sto) (QR : QT) : Prop := Wp (env R) (LFE (env R) 21 n0 ro rt) 87 [.cell 4 49] (sub b21 [1,1,1]) [] [(0,t0),(1,t1),(4,t4),(5,t5),(6,t6)] s QR
def P21_2 (R : RT) (n0 ro rt : Nat) (t0 t1 t4 t5 t6 : AV) (s : Sto) (QR : QT) : Prop := Wp (env R) (LFE (env R) 21 n0 ro rt) 87 [.cell 4 49] (sub b21 [1,1,1,1]) [] [(0,t0),(1,t1),(4,t4),(5,t5),(6,t6)] s QR
def P21_3 (R : RT) (n0 ro rt : Nat) (t0 t1 t4 t6 t9 t10 : AV) (s : Sto) (QR : QT) : Prop := Wp (env R) (LFE (env R) 21 n0 ro rt) 87 [.cell 4 49] (.loop (sub b21 [1,1,1,1,1,0,1,0,0])) [.blk 1,.seq (sub b21 [1,1,1,1,1,1])] [(0,t0),(1,t1),(4,t4),(6,t6),(9,t9),(10,t10)] s QR
def P21_4 (R : RT) (n0 ro rt : Nat) (t0 t1 t4 t6 t9 t10 : AV) (s : Sto) (QR : QT) : Prop := Wp (env R) (LFE (env R) 21 n0 ro rt) 87 [.cell 4 49] (sub b21 [1,1,1,1,1,0,1,0,0,1]) [.loop (sub b21 [1,1,1,1,1,0,1,0,0]),.blk 1,.seq (sub b21 [1,1,1,1,1,1])] [(0,t0),(1,t1),(4,t4),(6,t6),(9,t9),(10,t10)] s QR
def P21_5 (R : RT) (n0 ro rt : Nat) (t4 t9 : AV) (s : Sto) (QR : QT) : Prop := Wp (env R) (LFE (env R) 21 n0 ro rt) 87 [.cell 4 49] (sub b21 [1,1,1,1,1,1]) [] [(4,t4),(9,t9)] s QR
def P21_6 (R : RT) (n0 ro rt : Nat) (t0 t1 t4 t6 t9 t10 : AV) (s : Sto) (QR : QT) : Prop := Wp (env R) (LFE (env R) 21 n0 ro rt) 87 [.cell 4 49] (sub b21 [1,1,1,1,1,0,1,0,0,1,1]) [.loop (sub b21 [1,1,1,1,1,0,1,0,0]),.blk 1,.seq (sub b21 [1,1,1,1,1,1])] [(0,t0),(1,t1),(4,t4),(6,t6),(9,t9),(10,t10)] s QR
theorem p21_0 {R : RT} {n0 ro rt : Nat} {t0 t1 : AV} {s : Sto} {QR : QT} (h :
 wNew s [(I64 0),(SS []),(.capped []),(I64 0)] fun a4 s1x0 =>
 wCall (env R) (LFE (env R) 21 n0 ro rt) (.func (.func 44) [] []) [t0,(I64 9)] s1x0 fun a12 s1x1 =>
 wInt .i64 .lss a12 (I64 3) fun a36 =>
 wGK a36 false s1x1 (fun K => K t1 s1x1) fun a38 s1x2 =>
 wGK a36 false s1x2 (fun K => wInt .i64 .leq a38 (I64 0) fun a39 => K a39 s1x2) fun a39x3 s1x4 =>
 wPick a36 (BB true) a39x3 fun a40 =>
 wCond a40 (
 wLd (env R) s1x4 none (.gptr 3 0) fun a41 =>
 wLd (env R) s1x4 none (.gptr 3 0) fun a43 =>
 wLen s1x4 a43 fun a44 =>
 wCall (env R) (LFE (env R) 21 n0 ro rt) (.func (.func 44) [] []) [t0,a44] s1x4 fun a45 s1x5 =>
 wIdx s1x5 1 a41 a45 fun a46 =>
 wLd (env R) s1x5 none a46 fun a47 =>
 wBuild [(I64 0),(SS []),(.capped []),(I64 0)] [(0,1,(I64 1)),(1,1,a47)] fun a48 =>
 wSt (LFE (env R) 21 n0 ro rt) s1x5 4 a4 a48 fun s1x6 =>
(wLd (env R) s1x5 none (.gptr 3 0) fun v => eqA v a41 = true) ∧
 wLd (env R) s1x6 (some 4) a4 fun r =>
 QR r s1x6) (
 wInt .i64 .eql a12 (I64 3) fun a51 =>
 wCond a51 (
 P21_1 R n0 ro rt t0 t1 a4 (SS [66,111,120]) (I64 1) s1x4 QR) (
 wInt .i64 .eql a12 (I64 4) fun a54 =>
 wCond a54 (
 P21_1 R n0 ro rt t0 t1 a4 (SS [80,97,105,114]) (I64 2) s1x4 QR) (
 wInt .i64 .eql a12 (I64 5) fun a57 =>
 wCond a57 (
 wCall (env R) (LFE (env R) 21 n0 ro rt) (.func (.func 44) [] []) [t0,(I64 4)] s1x4 fun a59 s1x7 =>
 P21_1 R n0 ro rt t0 t1 a4 (SS [116,117,112,108,101]) a59 s1x7 QR) (
 wInt .i64 .eql a12 (I64 6) fun a62 =>
 wCond a62 (
 P21_1 R n0 ro rt t0 t1 a4 (SS [117,110,105,111,110]) (I64 2) s1x4 QR) (
 wBuild [(I64 0),(SS []),(.capped []),(I64 0)] [(0,1,(I64 1)),(1,1,(SS [101,120,105,115,116,115]))] fun a13 =>
 wLd (env R) (⟨s1x4.bs ++ [[(I64 0),(SS []),(.capped []),(I64 0)]],s1x4.ts⟩ : Sto) none (.gptr 3 0) fun a14 =>
 wCall (env R) (LFE (env R) 21 n0 ro rt) (.func (.func 44) [] []) [t0,(I64 9)] (⟨s1x4.bs ++ [[(I64 0),(SS []),(.capped []),(I64 0)]],s1x4.ts⟩ : Sto) fun a16 s1x8 =>
 wIdx s1x8 1 a14 a16 fun a17 =>
 wLd (env R) s1x8 none a17 fun a18 =>
 wBuild [(I64 0),(SS []),(.capped []),(I64 0)] [(0,1,(I64 1)),(1,1,a18)] fun a19 =>
 wBsl false s1x8 4 [(I64 0),(SS []),(.capped []),(I64 0)] 2 [(0,4,a13),(4,4,a19)] fun a20 s1x9 =>
 wBuild [(I64 0),(SS []),(.capped []),(I64 0)] [(0,1,(I64 3)),(2,1,a20)] fun a21 =>
 wSt (LFE (env R) 21 n0 ro rt) s1x8 4 (.ptr s1x4.bs.length 0) a21 fun s1x10 =>
(wLd (env R) s1x8 none (.gptr 3 0) fun vx11 => eqA vx11 a14 = true) ∧
(wO (idOf (.ptr s1x4.bs.length 0)) fun id => wO (⟨s1x4.bs ++ [[(I64 0),(SS []),(.capped []),(I64 0)]],s1x4.ts⟩ : Sto).bs[id]? fun cs' => eqAL cs' [(I64 0),(SS []),(.capped []),(I64 0)] = true) ∧
(wO (idOf (.ptr s1x4.bs.length 0)) fun id => wO s1x8.bs[id]? fun cs' => eqAL cs' [(I64 0),(SS []),(.capped []),(I64 0)] = true) ∧
 wFad s1x10 (.ptr s1x4.bs.length 0) 2 fun a22 =>
 wLd (env R) s1x10 none a22 fun a23 =>
 wCall (env R) (LFE (env R) 21 n0 ro rt) (.func (.func 21) [] []) [t0,(I64 1)] s1x10 fun a25 s1x12 =>
 wInt .i64 .sub t1 (I64 1) fun a28 =>
 wCall (env R) (LFE (env R) 21 n0 ro rt) (.func (.func 21) [] []) [t0,a28] s1x12 fun a29 s1x13 =>
 wBsl false s1x13 4 [(I64 0),(SS []),(.capped []),(I64 0)] 2 [(0,4,a25),(4,4,a29)] fun a30 s1x14 =>
(4 = 4 ∧ 4 ≠ 0) ∧ wApp false (LFE (env R) 21 n0 ro rt) s1x13 49 4 56 a23 a30 fun a31 s1x15 =>
 wFad s1x15 (.ptr s1x4.bs.length 0) 2 fun a32 =>
 wSt (LFE (env R) 21 n0 ro rt) s1x15 1 a32 a31 fun s1x16 =>
(wFad s1x12 (.ptr s1x4.bs.length 0) 2 fun vx17 => eqA vx17 a22 = true) ∧
(wFad s1x13 (.ptr s1x4.bs.length 0) 2 fun vx18 => eqA vx18 a22 = true) ∧
(wLd (env R) s1x12 none a22 fun vx19 => eqA vx19 a23 = true) ∧
(wLd (env R) s1x13 none a22 fun vx20 => eqA vx20 a23 = true) ∧
(wInt .i64 .sub t1 (I64 1) fun vx21 => eqA vx21 a28 = true) ∧
 wLd (env R) s1x16 (some 4) (.ptr s1x4.bs.length 0) fun a33 =>
 wSt (LFE (env R) 21 n0 ro rt) s1x16 4 a4 a33 fun s1x22 =>
 wLd (env R) s1x22 (some 4) a4 fun rx23 =>
 QR rx23 s1x22)))))) : P21_0 R n0 ro rt t0 t1 s QR :=
  wpc_mp (lv := lv21) (ct := ct21) _ _ _ _ h (by kernel_rfl)
theorem p21_1 {R : RT} {n0 ro rt : Nat} {t0 t1 t4 t5 t6 : AV} {s : Sto} {QR : QT} (h :
 wCall (env R) (LFE (env R) 21 n0 ro rt) (.func (.func 44) [] []) [t0,(I64 20)] s fun a64 s1x0 =>
 wInt .i64 .eql a64 (I64 19) fun a65 =>
 wCond a65 (
 wInt .i64 .add t6 (I64 1) fun a67 =>
 P21_2 R n0 ro rt t0 t1 t4 t5 a67 s1x0 QR) (
 P21_2 R n0 ro rt t0 t1 t4 t5 t6 s1x0 QR)) : P21_1 R n0 ro rt t0 t1 t4 t5 t6 s QR :=
  wpc_mp (lv := lv21) (ct := ct21) _ _ _ _ h (by kernel_rfl)
theorem p21_2 {R : RT} {n0 ro rt : Nat} {t0 t1 t4 t5 t6 : AV} {s : Sto} {QR : QT} (h :
 wBuild [(I64 0),(SS []),(.capped []),(I64 0)] [(0,1,(I64 1)),(1,1,t5)] fun a69 =>
 wBsl false s 4 [(I64 0),(SS []),(.capped []),(I64 0)] 1 [(0,4,a69)] fun a70 s1x0 =>
 wBuild [(I64 0),(SS []),(.capped []),(I64 0)] [(0,1,(I64 3)),(2,1,a70)] fun a71 =>
 wNew s1x0 [(I64 0),(SS []),(.capped []),(I64 0)] fun a9 s1x1 =>
 wSt (LFE (env R) 21 n0 ro rt) s1x1 4 a9 a71 fun s1x2 =>
 P21_3 R n0 ro rt t0 t1 t4 t6 a9 (I64 0) s1x2 QR) : P21_2 R n0 ro rt t0 t1 t4 t5 t6 s QR :=
  wpc_mp (lv := lv21) (ct := ct21) _ _ _ _ h (by kernel_rfl)
theorem p21_3 {R : RT} {n0 ro rt : Nat} {t0 t1 t4 t6 t9 t10 : AV} {s : Sto} {QR : QT} (h :
 wInt .i64 .lss t10 t6 fun a74 =>
 wCond a74 (
 P21_4 R n0 ro rt t0 t1 t4 t6 t9 t10 s QR) (
 P21_5 R n0 ro rt t4 t9 s QR)) : P21_3 R n0 ro rt t0 t1 t4 t6 t9 t10 s QR :=
  wpl_mp (lv := lv21) (ct := ct21) _ _ _ _ h (by kernel_rfl)
theorem p21_4 {R : RT} {n0 ro rt : Nat} {t0 t1 t4 t6 t9 t10 : AV} {s : Sto} {QR : QT} (h :
 wFad s t9 2 fun a77 =>
 wLd (env R) s none a77 fun a78 =>
 wInt .i64 .sub t1 (I64 1) fun a81 =>
 wCall (env R) (LFE (env R) 21 n0 ro rt) (.func (.func 21) [] []) [t0,a81] s fun a82 s1x0 =>
 wBsl false s1x0 4 [(I64 0),(SS []),(.capped []),(I64 0)] 1 [(0,4,a82)] fun a83 s1x1 =>
(4 = 4 ∧ 4 ≠ 0) ∧ wApp false (LFE (env R) 21 n0 ro rt) s1x0 49 4 56 a78 a83 fun a84 s1x2 =>
 wFad s1x2 t9 2 fun a85 =>
 wSt (LFE (env R) 21 n0 ro rt) s1x2 1 a85 a84 fun s1x3 =>
(wFad s1x0 t9 2 fun v => eqA v a77 = true) ∧
(wLd (env R) s1x0 none a77 fun vx4 => eqA vx4 a78 = true) ∧
 P21_6 R n0 ro rt t0 t1 t4 t6 t9 t10 s1x3 QR) : P21_4 R n0 ro rt t0 t1 t4 t6 t9 t10 s QR :=
  wpc_mp (lv := lv21) (ct := ct21) _ _ _ _ h (by kernel_rfl)
theorem p21_5 {R : RT} {n0 ro rt : Nat} {t4 t9 : AV} {s : Sto} {QR : QT} (h :
 wLd (env R) s (some 4) t9 fun a86 =>
 wSt (LFE (env R) 21 n0 ro rt) s 4 t4 a86 fun s1x0 =>
 wLd (env R) s1x0 (some 4) t4 fun r =>
 QR r s1x0) : P21_5 R n0 ro rt t4 t9 s QR :=
  wpc_mp (lv := lv21) (ct := ct21) _ _ _ _ h (by kernel_rfl)
theorem p21_6 {R : RT} {n0 ro rt : Nat} {t0 t1 t4 t6 t9 t10 : AV} {s : Sto} {QR : QT} (h :
 wInt .i64 .add t10 (I64 1) fun a76 =>
 P21_3 R n0 ro rt t0 t1 t4 t6 t9 a76 s QR) : P21_6 R n0 ro rt t0 t1 t4 t6 t9 t10 s QR :=
  wpc_mp (lv := lv21) (ct := ct21) _ _ _ _ h (by kernel_rfl)
theorem m21 {R : RT} {t0 t1 : AV} {L : Lim} {s : Sto} {Post : AV → Sto → Prop} (hn : noIdL [t0,t1] = false) (h : P21_0 R 0 L.ro L.rt t0 t1 s (QM (L.rr 21) s.bs.length Post)) : ∃ v s',Post v s' ∧ CallE (env R) L 21 [t0,t1] s v s' :=
  call_im (fn := Tryz.f21) (body := b21) Tryz.func21 (by kernel_rfl) (by kernel_rfl) (by kernel_rfl) (Nat.le_of_ble_eq_true (by kernel_rfl)) hn (mpK h (by kernel_rfl))
/-! 23: telpher/telmake.Node -/
noncomputable def b23 : Code := Tryz.f23.body.getD .skip
def lv23 (f : Nat) : List Nat := bif Nat.blt f 4 then (
 bif Nat.blt f 2 then (
  bif Nat.beq f 1 then [1,2] else []) else (
  bif Nat.blt f 3 then (
   bif Nat.beq f 2 then [1,2,3] else []) else (
   bif Nat.beq f 3 then [1,2,3,4] else []))) else (
 bif Nat.blt f 5 then (
  bif Nat.beq f 4 then [1,2,3,4] else []) else (
  bif Nat.blt f 6 then (
   bif Nat.beq f 5 then [1,2,3,4] else []) else (
   bif Nat.beq f 6 then [2,3] else [])))
def ct23 (f : Nat) : Bool := false
def P23_0 (R : RT) (n0 ro rt : Nat) (t0 : AV) (s : Sto) (QR : QT) : Prop := Wp (env R) (LFE (env R) 23 n0 ro rt) 31 [.cell 2 55] (sub b23 []) [] [(0,t0)] s QR
def P23_1 (R : RT) (n0 ro rt : Nat) (t1 t2 t3 t4 : AV) (s : Sto) (QR : QT) : Prop := Wp (env R) (LFE (env R) 23 n0 ro rt) 31 [.cell 2 55] (.loop (sub b23 [1,1,0,1,0,0])) [.blk 0,.seq (sub b23 [1,1,1])] [(1,t1),(2,t2),(3,t3),(4,t4)] s QR
def P23_2 (R : RT) (n0 ro rt : Nat) (t1 t2 t3 t4 : AV) (s : Sto) (QR : QT) : Prop := Wp (env R) (LFE (env R) 23 n0 ro rt) 31 [.cell 2 55] (sub b23 [1,1,0,1,0,0,1]) [.loop (sub b23 [1,1,0,1,0,0]),.blk 0,.seq (sub b23 [1,1,1])] [(1,t1),(2,t2),(3,t3),(4,t4)] s QR
def P23_3 (R : RT) (n0 ro rt : Nat) (t2 t3 : AV) (s : Sto) (QR : QT) : Prop := Wp (env R) (LFE (env R) 23 n0 ro rt) 31 [.cell 2 55] (sub b23 [1,1,1]) [] [(2,t2),(3,t3)] s QR
def P23_4 (R : RT) (n0 ro rt : Nat) (t1 t2 t3 t4 : AV) (s : Sto) (QR : QT) : Prop := Wp (env R) (LFE (env R) 23 n0 ro rt) 31 [.cell 2 55] (sub b23 [1,1,0,1,0,0,1,1]) [.loop (sub b23 [1,1,0,1,0,0]),.blk 0,.seq (sub b23 [1,1,1])] [(1,t1),(2,t2),(3,t3),(4,t4)] s QR
theorem p23_0 {R : RT} {n0 ro rt : Nat} {t0 : AV} {s : Sto} {QR : QT} (h :
 wBox s t0 fun a1 s1x0 =>
 wNew s1x0 [(I64 0),(SS []),(.capped []),(I64 0)] fun a2 s1x1 =>
 wFad s1x1 a1 0 fun a5 =>
 wLd (env R) s1x1 none a5 fun a6 =>
 wFad s1x1 a1 1 fun a7 =>
 wLd (env R) s1x1 none a7 fun a8 =>
 wFad s1x1 a1 3 fun a9 =>
 wLd (env R) s1x1 none a9 fun a10 =>
 wBuild [(I64 0),(SS []),(.capped []),(I64 0)] [(0,1,a6),(1,1,a8),(3,1,a10)] fun a11 =>
 wNew s1x1 [(I64 0),(SS []),(.capped []),(I64 0)] fun a3 s1x2 =>
 wSt (LFE (env R) 23 n0 ro rt) s1x2 4 a3 a11 fun s1x3 =>
 P23_1 R n0 ro rt a1 a2 a3 (I64 0) s1x3 QR) : P23_0 R n0 ro rt t0 s QR :=
  wpc_mp (lv := lv23) (ct := ct23) _ _ _ _ h (by kernel_rfl)
theorem p23_1 {R : RT} {n0 ro rt : Nat} {t1 t2 t3 t4 : AV} {s : Sto} {QR : QT} (h :
 wFad s t1 2 fun a13 =>
 wLd (env R) s none a13 fun a14 =>
 wLen s a14 fun a15 =>
 wInt .i64 .lss t4 a15 fun a16 =>
 wCond a16 (
 P23_2 R n0 ro rt t1 t2 t3 t4 s QR) (
 P23_3 R n0 ro rt t2 t3 s QR)) : P23_1 R n0 ro rt t1 t2 t3 t4 s QR :=
  wpl_mp (lv := lv23) (ct := ct23) _ _ _ _ h (by kernel_rfl)
theorem p23_2 {R : RT} {n0 ro rt : Nat} {t1 t2 t3 t4 : AV} {s : Sto} {QR : QT} (h :
 wFad s t3 2 fun a19 =>
 wLd (env R) s none a19 fun a20 =>
 wFad s t1 2 fun a21 =>
 wLd (env R) s none a21 fun a22 =>
 wIdx s 4 a22 t4 fun a24 =>
 wLd (env R) s (some 4) a24 fun a25 =>
 wCall (env R) (LFE (env R) 23 n0 ro rt) (.func (.func 23) [] []) [a25] s fun a26 s1x0 =>
 wBsl false s1x0 4 [(I64 0),(SS []),(.capped []),(I64 0)] 1 [(0,4,a26)] fun a27 s1x1 =>
(4 = 4 ∧ 4 ≠ 0) ∧ wApp false (LFE (env R) 23 n0 ro rt) s1x0 55 4 56 a20 a27 fun a28 s1x2 =>
 wFad s1x2 t3 2 fun a29 =>
 wSt (LFE (env R) 23 n0 ro rt) s1x2 1 a29 a28 fun s1x3 =>
(wFad s1x0 t3 2 fun v => eqA v a19 = true) ∧
(wLd (env R) s1x0 none a19 fun vx4 => eqA vx4 a20 = true) ∧
 P23_4 R n0 ro rt t1 t2 t3 t4 s1x3 QR) : P23_2 R n0 ro rt t1 t2 t3 t4 s QR :=
  wpc_mp (lv := lv23) (ct := ct23) _ _ _ _ h (by kernel_rfl)
theorem p23_3 {R : RT} {n0 ro rt : Nat} {t2 t3 : AV} {s : Sto} {QR : QT} (h :
 wLd (env R) s (some 4) t3 fun a30 =>
 wSt (LFE (env R) 23 n0 ro rt) s 4 t2 a30 fun s1x0 =>
 wLd (env R) s1x0 (some 4) t2 fun r =>
 QR r s1x0) : P23_3 R n0 ro rt t2 t3 s QR :=
  wpc_mp (lv := lv23) (ct := ct23) _ _ _ _ h (by kernel_rfl)
theorem p23_4 {R : RT} {n0 ro rt : Nat} {t1 t2 t3 t4 : AV} {s : Sto} {QR : QT} (h :
 wInt .i64 .add t4 (I64 1) fun a18 =>
 P23_1 R n0 ro rt t1 t2 t3 a18 s QR) : P23_4 R n0 ro rt t1 t2 t3 t4 s QR :=
  wpc_mp (lv := lv23) (ct := ct23) _ _ _ _ h (by kernel_rfl)
theorem e23 {R : RT} {t0 : AV} {u0 : AV} {Post : AV → Prop} (hcl : closeL [] 0 0 [t0] = some [u0]) (h : P23_0 R 0 0 0 u0 ⟨[],[]⟩ (QP Post)) : PureC (env R) 23 [t0] Post :=
  call_rd (fn := Tryz.f23) (body := b23) Tryz.func23 (by kernel_rfl) (by kernel_rfl) (by kernel_rfl) (Nat.le_of_ble_eq_true (by kernel_rfl)) hcl (mpK h (by kernel_rfl))
/-! 5: telpher/tellaw11.TypetextNodes -/
noncomputable def b5 : Code := Tryz.f5.body.getD .skip
def lv5 (f : Nat) : List Nat := bif Nat.blt f 5 then (
 bif Nat.blt f 3 then (
  bif Nat.blt f 2 then (
   bif Nat.beq f 1 then [0,1] else []) else (
   bif Nat.beq f 2 then [0,5] else [])) else (
  bif Nat.blt f 4 then (
   bif Nat.beq f 3 then [5,6] else []) else (
   bif Nat.beq f 4 then [5,6,7] else []))) else (
 bif Nat.blt f 7 then (
  bif Nat.blt f 6 then (
   bif Nat.beq f 5 then [5,7,8] else []) else (
   bif Nat.beq f 6 then [5,7,8,9,10] else [])) else (
  bif Nat.blt f 8 then (
   bif Nat.beq f 7 then [5,8,9,10,11,12] else []) else (
   bif Nat.blt f 9 then (
    bif Nat.beq f 8 then [5,8,9,10,11,12,13,14] else []) else (
    bif Nat.beq f 9 then [9,10,11,12,13,14,15,16] else []))))
def ct5 (f : Nat) : Bool := false
def P5_0 (R : RT) (n0 ro rt : Nat) (t0 t1 : AV) (s : Sto) (QR : QT) : Prop := Wp (env R) (LFE (env R) 5 n0 ro rt) 74 [.tmp 4] (sub b5 []) [] [(0,t0),(1,t1)] s QR
theorem p5_0 {R : RT} {n0 ro rt : Nat} {t0 t1 : AV} {s : Sto} {QR : QT} (h :
 wBsl false s 1 [(SS [])] 5 [(0,1,(SS [65])),(1,1,(SS [66])),(2,1,(SS [120,49])),(3,1,(SS [65])),(4,1,(SS [66,111,120]))] fun a17 s1x0 =>
 wCall (env R) (LFE (env R) 5 n0 ro rt) (.func (.func 18) [] []) [t1,(I64 6)] s1x0 fun a19 s1x1 =>
 wSlc s1x1 1 a17 none (some a19) none fun a20 =>
 wCall (env R) (LFE (env R) 5 n0 ro rt) (.func (.func 8) [] []) [t0] s1x1 fun a22 s1x2 =>
 wCall (env R) (LFE (env R) 5 n0 ro rt) (.func (.func 20) [] []) [a22,(I64 4),(BB true)] s1x2 fun a24 s1x3 =>
 wNew s1x3 [(I64 0),(SS []),(.capped []),(I64 0)] fun a7 s1x4 =>
 wSt (LFE (env R) 5 n0 ro rt) s1x4 4 a7 a24 fun s1x5 =>
 wCall (env R) (LFE (env R) 5 n0 ro rt) (.func (.func 21) [] []) [a22,(I64 4)] s1x5 fun a26 s1x6 =>
 wNew s1x6 [(I64 0),(SS []),(.capped []),(I64 0)] fun a8 s1x7 =>
 wSt (LFE (env R) 5 n0 ro rt) s1x7 4 a8 a26 fun s1x8 =>
 wLd (env R) s1x8 (some 4) a7 fun a28 =>
 wCall (env R) (LFE (env R) 5 n0 ro rt) (.func (.func 23) [] []) [a28] s1x8 fun a29 s1x9 =>
 wCall (env R) (LFE (env R) 5 n0 ro rt) (.func (.func 22) [] []) [a29,a20] s1x9 fun a31 s1x10 =>
 wExt a31 0 fun a32 =>
 wExt a31 1 fun a33 =>
 wNew s1x10 [(I64 0),(SS []),(I64 0),(.capped [])] fun a9 s1x11 =>
 wNew s1x11 [(I64 0),(I64 0)] fun a10 s1x12 =>
 wSt (LFE (env R) 5 n0 ro rt) s1x12 4 a9 a32 fun s1x13 =>
 wSt (LFE (env R) 5 n0 ro rt) s1x13 2 a10 a33 fun s1x14 =>
 wLd (env R) s1x14 (some 4) a7 fun a35 =>
 wCall (env R) (LFE (env R) 5 n0 ro rt) (.func (.func 24) [] []) [a35,a20] s1x14 fun a37 s1x15 =>
 wExt a37 0 fun a38 =>
 wExt a37 1 fun a39 =>
 wNew s1x15 [(I64 0),(SS []),(I64 0),(.capped [])] fun a11 s1x16 =>
 wNew s1x16 [(I64 0),(I64 0)] fun a12 s1x17 =>
 wSt (LFE (env R) 5 n0 ro rt) s1x17 4 a11 a38 fun s1x18 =>
 wSt (LFE (env R) 5 n0 ro rt) s1x18 2 a12 a39 fun s1x19 =>
 wLd (env R) s1x19 (some 4) a8 fun a41 =>
 wCall (env R) (LFE (env R) 5 n0 ro rt) (.func (.func 23) [] []) [a41] s1x19 fun a42 s1x20 =>
 wCall (env R) (LFE (env R) 5 n0 ro rt) (.func (.func 22) [] []) [a42,a20] s1x20 fun a44 s1x21 =>
 wExt a44 0 fun a45 =>
 wExt a44 1 fun a46 =>
 wNew s1x21 [(I64 0),(SS []),(I64 0),(.capped [])] fun a13 s1x22 =>
 wNew s1x22 [(I64 0),(I64 0)] fun a14 s1x23 =>
 wSt (LFE (env R) 5 n0 ro rt) s1x23 4 a13 a45 fun s1x24 =>
 wSt (LFE (env R) 5 n0 ro rt) s1x24 2 a14 a46 fun s1x25 =>
 wLd (env R) s1x25 (some 4) a8 fun a48 =>
 wCall (env R) (LFE (env R) 5 n0 ro rt) (.func (.func 24) [] []) [a48,a20] s1x25 fun a50 s1x26 =>
 wExt a50 0 fun a51 =>
 wExt a50 1 fun a52 =>
 wNew s1x26 [(I64 0),(SS []),(I64 0),(.capped [])] fun a15 s1x27 =>
 wNew s1x27 [(I64 0),(I64 0)] fun a16 s1x28 =>
 wSt (LFE (env R) 5 n0 ro rt) s1x28 4 a15 a51 fun s1x29 =>
 wSt (LFE (env R) 5 n0 ro rt) s1x29 2 a16 a52 fun s1x30 =>
 wCall (env R) (LFE (env R) 5 n0 ro rt) (.func (.func 11) [] []) [] s1x30 fun a53 s1x31 =>
 wGK a53 true s1x31 (fun K => wLd (env R) s1x31 (some 2) a10 fun a55 => K a55 s1x31) fun a55x32 s1x33 =>
 wGK a53 true s1x33 (fun K => wLd (env R) s1x33 (some 2) a12 fun a56 => K a56 s1x33) fun a56x34 s1x35 =>
 wGK a53 true s1x35 (fun K => wCall (env R) (LFE (env R) 5 n0 ro rt) (.func (.func 25) [] []) [a55x32,a56x34] s1x35 fun a57 s1x36 => K a57 s1x36) fun a57x37 s1x38 =>
 wPick a53 a57x37 (BB false) fun a58 =>
 wGK a58 true s1x38 (fun K => wLd (env R) s1x38 (some 4) a9 fun a60 => K a60 s1x38) fun a60x39 s1x40 =>
 wGK a58 true s1x40 (fun K => wLd (env R) s1x40 (some 4) a11 fun a61 => K a61 s1x40) fun a61x41 s1x42 =>
 wGK a58 true s1x42 (fun K => wCall (env R) (LFE (env R) 5 n0 ro rt) (.func (.func 15) [] []) [a60x39,a61x41] s1x42 fun a62 s1x43 => K a62 s1x43) fun a62x44 s1x45 =>
 wPick a58 a62x44 (BB false) fun a63 =>
 wGK a63 true s1x45 (fun K => wLd (env R) s1x45 (some 2) a14 fun a65 => K a65 s1x45) fun a65x46 s1x47 =>
 wGK a63 true s1x47 (fun K => wLd (env R) s1x47 (some 2) a16 fun a66 => K a66 s1x47) fun a66x48 s1x49 =>
 wGK a63 true s1x49 (fun K => wCall (env R) (LFE (env R) 5 n0 ro rt) (.func (.func 25) [] []) [a65x46,a66x48] s1x49 fun a67 s1x50 => K a67 s1x50) fun a67x51 s1x52 =>
 wPick a63 a67x51 (BB false) fun a68 =>
 wGK a68 true s1x52 (fun K => wLd (env R) s1x52 (some 4) a13 fun a70 => K a70 s1x52) fun a70x53 s1x54 =>
 wGK a68 true s1x54 (fun K => wLd (env R) s1x54 (some 4) a15 fun a71 => K a71 s1x54) fun a71x55 s1x56 =>
 wGK a68 true s1x56 (fun K => wCall (env R) (LFE (env R) 5 n0 ro rt) (.func (.func 15) [] []) [a70x53,a71x55] s1x56 fun a72 s1x57 => K a72 s1x57) fun a72x58 s1x59 =>
 wPick a68 a72x58 (BB false) fun a73 =>
 QR a73 s1x59) : P5_0 R n0 ro rt t0 t1 s QR :=
  wpc_mp (lv := lv5) (ct := ct5) _ _ _ _ h (by kernel_rfl)
theorem e5 {R : RT} {t0 t1 : AV} {u0 u1 : AV} {Post : AV → Prop} (hcl : closeL [] 0 0 [t0,t1] = some [u0,u1]) (h : P5_0 R 0 0 0 u0 u1 ⟨[],[]⟩ (QP Post)) : PureC (env R) 5 [t0,t1] Post :=
  call_rd (fn := Tryz.f5) (body := b5) Tryz.func5 (by kernel_rfl) (by kernel_rfl) (by kernel_rfl) (Nat.le_of_ble_eq_true (by kernel_rfl)) hcl (mpK h (by kernel_rfl))
end Go.Proofs.YtmipbilokjkjiaaGreatDoor
