/-
  What the points of some functions' code need: written by a program (wip/tel/GenW.lean.txt).
-/
import Derived.Test.YtdbilmjamgjkeaaGreatDoorTab
namespace Go.Proofs.YtdbilmjamgjkeaaGreatDoor
open Go.Tel

/-! 3: telpher/tellaw17.ValuePrimitives -/
noncomputable def b3 : Code := Tryz.f3.body.getD .skip
def lv3 (f : Nat) : List Nat := bif Nat.blt f 6 then (
 bif Nat.blt f 3 then (
  bif Nat.blt f 2 then (
   bif Nat.beq f 1 then [0, 1, 2, 3, 4, 5] else []) else (
   bif Nat.beq f 2 then [0, 2, 3, 4, 5, 13] else [])) else (
  bif Nat.blt f 4 then (
   bif Nat.beq f 3 then [0, 2, 3, 4, 5, 14, 15] else []) else (
   bif Nat.blt f 5 then (
    bif Nat.beq f 4 then [0, 2, 3, 4, 5, 14, 15, 36] else []) else (
    bif Nat.beq f 5 then [0, 2, 3, 4, 5, 14, 15] else [])))) else (
 bif Nat.blt f 9 then (
  bif Nat.blt f 7 then (
   bif Nat.beq f 6 then [0, 2, 3, 4, 5, 14, 15, 16, 17] else []) else (
   bif Nat.blt f 8 then (
    bif Nat.beq f 7 then [0, 2, 3, 4, 5, 16, 17, 18, 19] else []) else (
    bif Nat.beq f 8 then [0, 2, 3, 4, 5, 16, 17, 18, 19, 20, 21] else []))) else (
  bif Nat.blt f 10 then (
   bif Nat.beq f 9 then [4, 5, 16, 17, 18, 19, 20, 21, 22, 23] else []) else (
   bif Nat.blt f 11 then (
    bif Nat.beq f 10 then [4, 5, 16, 17, 18, 19, 20, 21, 22, 23, 24, 25] else []) else (
    bif Nat.beq f 11 then [16, 17, 18, 19, 20, 21, 22, 23, 24, 25, 26, 27] else []))))
def ct3 (f : Nat) : Bool := bif Nat.blt f 8 then (
 bif Nat.blt f 6 then (
  bif Nat.beq f 3 then true else false) else (
  bif Nat.blt f 7 then (
   bif Nat.beq f 6 then true else false) else (
   bif Nat.beq f 7 then true else false))) else (
 bif Nat.blt f 10 then (
  bif Nat.blt f 9 then (
   bif Nat.beq f 8 then true else false) else (
   bif Nat.beq f 9 then true else false)) else (
  bif Nat.blt f 11 then (
   bif Nat.beq f 10 then true else false) else (
   bif Nat.beq f 11 then true else false)))
def P3_0 (n0 ro rt : Nat) (t0 t1 t2 t3 t4 t5 : AV) (s : Sto) (QR : AV → Sto → Prop) : Prop := Wp env (LFE env 3 n0 ro rt) 118 [.tmp 12] (sub b3 []) [] [(0, t0), (1, t1), (2, t2), (3, t3), (4, t4), (5, t5)] s QR
def P3_1 (n0 ro rt : Nat) (t0 t2 t3 t4 t5 t14 t15 : AV) (s : Sto) (QR : AV → Sto → Prop) : Prop := Wp env (LFE env 3 n0 ro rt) 118 [.tmp 12] (sub b3 [1, 1, 1]) [] [(0, t0), (2, t2), (3, t3), (4, t4), (5, t5), (14, t14), (15, t15)] s QR
def P3_2 (n0 ro rt : Nat) (t0 t2 t3 t4 t5 t14 t15 : AV) (s : Sto) (QR : AV → Sto → Prop) : Prop := Wp env (LFE env 3 n0 ro rt) 118 [.tmp 12] (sub b3 [1, 1, 1, 1]) [] [(0, t0), (2, t2), (3, t3), (4, t4), (5, t5), (14, t14), (15, t15)] s QR
def P3_3 (n0 ro rt : Nat) (t0 t2 t3 t4 t5 t14 t15 t16 t17 : AV) (s : Sto) (QR : AV → Sto → Prop) : Prop := Wp env (LFE env 3 n0 ro rt) 118 [.tmp 12] (sub b3 [1, 1, 1, 1, 1]) [] [(0, t0), (2, t2), (3, t3), (4, t4), (5, t5), (14, t14), (15, t15), (16, t16), (17, t17)] s QR
def P3_4 (n0 ro rt : Nat) (t0 t2 t3 t4 t5 t16 t17 t18 t19 : AV) (s : Sto) (QR : AV → Sto → Prop) : Prop := Wp env (LFE env 3 n0 ro rt) 118 [.tmp 12] (sub b3 [1, 1, 1, 1, 1, 1]) [] [(0, t0), (2, t2), (3, t3), (4, t4), (5, t5), (16, t16), (17, t17), (18, t18), (19, t19)] s QR
def P3_5 (n0 ro rt : Nat) (t0 t2 t3 t4 t5 t16 t17 t18 t19 t20 t21 : AV) (s : Sto) (QR : AV → Sto → Prop) : Prop := Wp env (LFE env 3 n0 ro rt) 118 [.tmp 12] (sub b3 [1, 1, 1, 1, 1, 1, 1]) [] [(0, t0), (2, t2), (3, t3), (4, t4), (5, t5), (16, t16), (17, t17), (18, t18), (19, t19), (20, t20), (21, t21)] s QR
def P3_6 (n0 ro rt : Nat) (t4 t5 t16 t17 t18 t19 t20 t21 t22 t23 : AV) (s : Sto) (QR : AV → Sto → Prop) : Prop := Wp env (LFE env 3 n0 ro rt) 118 [.tmp 12] (sub b3 [1, 1, 1, 1, 1, 1, 1, 1]) [] [(4, t4), (5, t5), (16, t16), (17, t17), (18, t18), (19, t19), (20, t20), (21, t21), (22, t22), (23, t23)] s QR
def P3_7 (n0 ro rt : Nat) (t4 t5 t16 t17 t18 t19 t20 t21 t22 t23 t24 t25 : AV) (s : Sto) (QR : AV → Sto → Prop) : Prop := Wp env (LFE env 3 n0 ro rt) 118 [.tmp 12] (sub b3 [1, 1, 1, 1, 1, 1, 1, 1, 1]) [] [(4, t4), (5, t5), (16, t16), (17, t17), (18, t18), (19, t19), (20, t20), (21, t21), (22, t22), (23, t23), (24, t24), (25, t25)] s QR
def P3_8 (n0 ro rt : Nat) (t16 t17 t18 t19 t20 t21 t22 t23 t24 t25 t26 t27 : AV) (s : Sto) (QR : AV → Sto → Prop) : Prop := Wp env (LFE env 3 n0 ro rt) 118 [.tmp 12] (sub b3 [1, 1, 1, 1, 1, 1, 1, 1, 1, 1]) [] [(16, t16), (17, t17), (18, t18), (19, t19), (20, t20), (21, t21), (22, t22), (23, t23), (24, t24), (25, t25), (26, t26), (27, t27)] s QR

theorem p3_0 {n0 ro rt : Nat} {t0 t1 t2 t3 t4 t5 : AV} {s : Sto} {QR : AV → Sto → Prop} (h :
 wCall env (LFE env 3 n0 ro rt) (.func (.func 10) [] []) [t1] s fun a29 s1x0 =>
 wCall env (LFE env 3 n0 ro rt) (.func (.func 11) [] []) [a29, (I64 2), (I64 2)] s1x0 fun a31 s1x1 =>
 wCall env (LFE env 3 n0 ro rt) (.func (.func 11) [] []) [a29, (I64 2), (I64 2)] s1x1 fun a33 s1x2 =>
 wNew s1x2 [(I64 0), (I64 0), (SS []), (.capped [])] fun a14 s1x3 =>
 wNew s1x3 [(I64 0), (I64 0), (SS []), (.capped [])] fun a15 s1x4 =>
 wSt (LFE env 3 n0 ro rt) s1x4 4 a14 a31 fun s1x5 =>
 wSt (LFE env 3 n0 ro rt) s1x5 4 a15 a33 fun s1x6 =>
 P3_1 n0 ro rt t0 t2 t3 t4 t5 a14 a15 s1x6 QR) : P3_0 n0 ro rt t0 t1 t2 t3 t4 t5 s QR :=
  wpc_mp (E := env) (L := LFE env 3 n0 ro rt) (N := 118) (lv := lv3) (ct := ct3) (rs := [.tmp 12]) (QR := QR) (sub b3 []) [] [(0, t0), (1, t1), (2, t2), (3, t3), (4, t4), (5, t5)] s h (by kernel_rfl)

theorem p3_1 {n0 ro rt : Nat} {t0 t2 t3 t4 t5 t14 t15 : AV} {s : Sto} {QR : AV → Sto → Prop} (h :
 wInt .i64 .rem t0 (I64 10) fun a35 =>
 wInt .i64 .lss a35 (I64 8) fun a36 =>
 wCond a36 (
 wCall env (LFE env 3 n0 ro rt) (.func (.func 12) [] []) [t0, (I64 9)] s fun a38 s1x0 =>
 P3_2 n0 ro rt a38 t2 t3 t4 t5 t14 t15 s1x0 QR) (
 P3_2 n0 ro rt t0 t2 t3 t4 t5 t14 t15 s QR)) : P3_1 n0 ro rt t0 t2 t3 t4 t5 t14 t15 s QR :=
  wpc_mp (E := env) (L := LFE env 3 n0 ro rt) (N := 118) (lv := lv3) (ct := ct3) (rs := [.tmp 12]) (QR := QR) (sub b3 [1, 1, 1]) [] [(0, t0), (2, t2), (3, t3), (4, t4), (5, t5), (14, t14), (15, t15)] s h (by kernel_rfl)

theorem p3_2 {n0 ro rt : Nat} {t0 t2 t3 t4 t5 t14 t15 : AV} {s : Sto} {QR : AV → Sto → Prop} (h :
 wLd env s (some 4) t14 fun a41 =>
 wLd env s (some 4) t15 fun a42 =>
 wCall env (LFE env 3 n0 ro rt) (.func (.func 13) [] []) [t0, a41, a42] s fun a43 s1x0 =>
 wExt a43 0 fun a44 =>
 wExt a43 1 fun a45 =>
 wNew s1x0 [(I64 0), (I64 0), (SS []), (.capped [])] fun a16 s1x1 =>
 wSt (LFE env 3 n0 ro rt) s1x1 4 a16 a44 fun s1x2 =>
 P3_3 n0 ro rt t0 t2 t3 t4 t5 t14 t15 a16 a45 s1x2 QR) : P3_2 n0 ro rt t0 t2 t3 t4 t5 t14 t15 s QR :=
  wpc_mp (E := env) (L := LFE env 3 n0 ro rt) (N := 118) (lv := lv3) (ct := ct3) (rs := [.tmp 12]) (QR := QR) (sub b3 [1, 1, 1, 1]) [] [(0, t0), (2, t2), (3, t3), (4, t4), (5, t5), (14, t14), (15, t15)] s h (by kernel_rfl)

theorem p3_3 {n0 ro rt : Nat} {t0 t2 t3 t4 t5 t14 t15 t16 t17 : AV} {s : Sto} {QR : AV → Sto → Prop} (h :
 wLd env s (some 4) t14 fun a48 =>
 wLd env s (some 4) t15 fun a49 =>
 wCall env (LFE env 3 n0 ro rt) (.func (.func 14) [] []) [t0, a48, a49] s fun a50 s1x0 =>
 wExt a50 0 fun a51 =>
 wExt a50 1 fun a52 =>
 wNew s1x0 [(I64 0), (I64 0), (SS []), (.capped [])] fun a18 s1x1 =>
 wSt (LFE env 3 n0 ro rt) s1x1 4 a18 a51 fun s1x2 =>
 P3_4 n0 ro rt t0 t2 t3 t4 t5 t16 t17 a18 a52 s1x2 QR) : P3_3 n0 ro rt t0 t2 t3 t4 t5 t14 t15 t16 t17 s QR :=
  wpc_mp (E := env) (L := LFE env 3 n0 ro rt) (N := 118) (lv := lv3) (ct := ct3) (rs := [.tmp 12]) (QR := QR) (sub b3 [1, 1, 1, 1, 1]) [] [(0, t0), (2, t2), (3, t3), (4, t4), (5, t5), (14, t14), (15, t15), (16, t16), (17, t17)] s h (by kernel_rfl)

theorem p3_4 {n0 ro rt : Nat} {t0 t2 t3 t4 t5 t16 t17 t18 t19 : AV} {s : Sto} {QR : AV → Sto → Prop} (h :
 wCall env (LFE env 3 n0 ro rt) (.func (.func 15) [] []) [t2] s fun a56 s1x0 =>
 wCall env (LFE env 3 n0 ro rt) (.func (.func 15) [] []) [t3] s1x0 fun a58 s1x1 =>
 wCall env (LFE env 3 n0 ro rt) (.func (.func 13) [] []) [t0, a56, a58] s1x1 fun a59 s1x2 =>
 wExt a59 0 fun a60 =>
 wExt a59 1 fun a61 =>
 wNew s1x2 [(I64 0), (I64 0), (SS []), (.capped [])] fun a20 s1x3 =>
 wSt (LFE env 3 n0 ro rt) s1x3 4 a20 a60 fun s1x4 =>
 P3_5 n0 ro rt t0 t2 t3 t4 t5 t16 t17 t18 t19 a20 a61 s1x4 QR) : P3_4 n0 ro rt t0 t2 t3 t4 t5 t16 t17 t18 t19 s QR :=
  wpc_mp (E := env) (L := LFE env 3 n0 ro rt) (N := 118) (lv := lv3) (ct := ct3) (rs := [.tmp 12]) (QR := QR) (sub b3 [1, 1, 1, 1, 1, 1]) [] [(0, t0), (2, t2), (3, t3), (4, t4), (5, t5), (16, t16), (17, t17), (18, t18), (19, t19)] s h (by kernel_rfl)

theorem p3_5 {n0 ro rt : Nat} {t0 t2 t3 t4 t5 t16 t17 t18 t19 t20 t21 : AV} {s : Sto} {QR : AV → Sto → Prop} (h :
 wCall env (LFE env 3 n0 ro rt) (.func (.func 15) [] []) [t2] s fun a65 s1x0 =>
 wCall env (LFE env 3 n0 ro rt) (.func (.func 15) [] []) [t3] s1x0 fun a67 s1x1 =>
 wCall env (LFE env 3 n0 ro rt) (.func (.func 14) [] []) [t0, a65, a67] s1x1 fun a68 s1x2 =>
 wExt a68 0 fun a69 =>
 wExt a68 1 fun a70 =>
 wNew s1x2 [(I64 0), (I64 0), (SS []), (.capped [])] fun a22 s1x3 =>
 wSt (LFE env 3 n0 ro rt) s1x3 4 a22 a69 fun s1x4 =>
 P3_6 n0 ro rt t4 t5 t16 t17 t18 t19 t20 t21 a22 a70 s1x4 QR) : P3_5 n0 ro rt t0 t2 t3 t4 t5 t16 t17 t18 t19 t20 t21 s QR :=
  wpc_mp (E := env) (L := LFE env 3 n0 ro rt) (N := 118) (lv := lv3) (ct := ct3) (rs := [.tmp 12]) (QR := QR) (sub b3 [1, 1, 1, 1, 1, 1, 1]) [] [(0, t0), (2, t2), (3, t3), (4, t4), (5, t5), (16, t16), (17, t17), (18, t18), (19, t19), (20, t20), (21, t21)] s h (by kernel_rfl)

theorem p3_6 {n0 ro rt : Nat} {t4 t5 t16 t17 t18 t19 t20 t21 t22 t23 : AV} {s : Sto} {QR : AV → Sto → Prop} (h :
 wBuild [(I64 0), (I64 0), (SS []), (.capped [])] [(0, 1, (I64 3)), (2, 1, t4)] fun a73 =>
 wBuild [(I64 0), (I64 0), (SS []), (.capped [])] [(0, 1, (I64 3)), (2, 1, t5)] fun a75 =>
 wCall env (LFE env 3 n0 ro rt) (.func (.func 13) [] []) [(I64 6), a73, a75] s fun a76 s1x0 =>
 wExt a76 0 fun a77 =>
 wExt a76 1 fun a78 =>
 wNew s1x0 [(I64 0), (I64 0), (SS []), (.capped [])] fun a24 s1x1 =>
 wSt (LFE env 3 n0 ro rt) s1x1 4 a24 a77 fun s1x2 =>
 P3_7 n0 ro rt t4 t5 t16 t17 t18 t19 t20 t21 t22 t23 a24 a78 s1x2 QR) : P3_6 n0 ro rt t4 t5 t16 t17 t18 t19 t20 t21 t22 t23 s QR :=
  wpc_mp (E := env) (L := LFE env 3 n0 ro rt) (N := 118) (lv := lv3) (ct := ct3) (rs := [.tmp 12]) (QR := QR) (sub b3 [1, 1, 1, 1, 1, 1, 1, 1]) [] [(4, t4), (5, t5), (16, t16), (17, t17), (18, t18), (19, t19), (20, t20), (21, t21), (22, t22), (23, t23)] s h (by kernel_rfl)

theorem p3_7 {n0 ro rt : Nat} {t4 t5 t16 t17 t18 t19 t20 t21 t22 t23 t24 t25 : AV} {s : Sto} {QR : AV → Sto → Prop} (h :
 wBuild [(I64 0), (I64 0), (SS []), (.capped [])] [(0, 1, (I64 3)), (2, 1, t4)] fun a81 =>
 wBuild [(I64 0), (I64 0), (SS []), (.capped [])] [(0, 1, (I64 3)), (2, 1, t5)] fun a83 =>
 wCall env (LFE env 3 n0 ro rt) (.func (.func 14) [] []) [(I64 6), a81, a83] s fun a84 s1x0 =>
 wExt a84 0 fun a85 =>
 wExt a84 1 fun a86 =>
 wNew s1x0 [(I64 0), (I64 0), (SS []), (.capped [])] fun a26 s1x1 =>
 wSt (LFE env 3 n0 ro rt) s1x1 4 a26 a85 fun s1x2 =>
 P3_8 n0 ro rt t16 t17 t18 t19 t20 t21 t22 t23 t24 t25 a26 a86 s1x2 QR) : P3_7 n0 ro rt t4 t5 t16 t17 t18 t19 t20 t21 t22 t23 t24 t25 s QR :=
  wpc_mp (E := env) (L := LFE env 3 n0 ro rt) (N := 118) (lv := lv3) (ct := ct3) (rs := [.tmp 12]) (QR := QR) (sub b3 [1, 1, 1, 1, 1, 1, 1, 1, 1]) [] [(4, t4), (5, t5), (16, t16), (17, t17), (18, t18), (19, t19), (20, t20), (21, t21), (22, t22), (23, t23), (24, t24), (25, t25)] s h (by kernel_rfl)

theorem p3_8 {n0 ro rt : Nat} {t16 t17 t18 t19 t20 t21 t22 t23 t24 t25 t26 t27 : AV} {s : Sto} {QR : AV → Sto → Prop} (h :
 wCall env (LFE env 3 n0 ro rt) (.func (.func 16) [] []) [] s fun a87 s1x0 =>
 wGK a87 true s1x0 (fun K => K t17 s1x0) fun a89 s1x1 =>
 wGK a87 true s1x1 (fun K => K t19 s1x1) fun a90 s1x2 =>
 wGK a87 true s1x2 (fun K => wInt .i64 .eql a89 a90 fun a91 => K a91 s1x2) fun a91x3 s1x4 =>
 wPick a87 a91x3 (BB false) fun a92 =>
 wGK a92 true s1x4 (fun K => wLd env s1x4 (some 4) t16 fun a94 => K a94 s1x4) fun a94x5 s1x6 =>
 wGK a92 true s1x6 (fun K => wLd env s1x6 (some 4) t18 fun a95 => K a95 s1x6) fun a95x7 s1x8 =>
 wGK a92 true s1x8 (fun K => wCall env (LFE env 3 n0 ro rt) (.func (.func 17) [] []) [a94x5, a95x7] s1x8 fun a96 s1x9 => K a96 s1x9) fun a96x10 s1x11 =>
 wPick a92 a96x10 (BB false) fun a97 =>
 wGK a97 true s1x11 (fun K => K t21 s1x11) fun a99 s1x12 =>
 wGK a97 true s1x12 (fun K => K t23 s1x12) fun a100 s1x13 =>
 wGK a97 true s1x13 (fun K => wInt .i64 .eql a99 a100 fun a101 => K a101 s1x13) fun a101x14 s1x15 =>
 wPick a97 a101x14 (BB false) fun a102 =>
 wGK a102 true s1x15 (fun K => wLd env s1x15 (some 4) t20 fun a104 => K a104 s1x15) fun a104x16 s1x17 =>
 wGK a102 true s1x17 (fun K => wLd env s1x17 (some 4) t22 fun a105 => K a105 s1x17) fun a105x18 s1x19 =>
 wGK a102 true s1x19 (fun K => wCall env (LFE env 3 n0 ro rt) (.func (.func 17) [] []) [a104x16, a105x18] s1x19 fun a106 s1x20 => K a106 s1x20) fun a106x21 s1x22 =>
 wPick a102 a106x21 (BB false) fun a107 =>
 wGK a107 true s1x22 (fun K => K t25 s1x22) fun a109 s1x23 =>
 wGK a107 true s1x23 (fun K => K t27 s1x23) fun a110 s1x24 =>
 wGK a107 true s1x24 (fun K => wInt .i64 .eql a109 a110 fun a111 => K a111 s1x24) fun a111x25 s1x26 =>
 wPick a107 a111x25 (BB false) fun a112 =>
 wGK a112 true s1x26 (fun K => wLd env s1x26 (some 4) t24 fun a114 => K a114 s1x26) fun a114x27 s1x28 =>
 wGK a112 true s1x28 (fun K => wLd env s1x28 (some 4) t26 fun a115 => K a115 s1x28) fun a115x29 s1x30 =>
 wGK a112 true s1x30 (fun K => wCall env (LFE env 3 n0 ro rt) (.func (.func 17) [] []) [a114x27, a115x29] s1x30 fun a116 s1x31 => K a116 s1x31) fun a116x32 s1x33 =>
 wPick a112 a116x32 (BB false) fun a117 =>
 QR a117 s1x33) : P3_8 n0 ro rt t16 t17 t18 t19 t20 t21 t22 t23 t24 t25 t26 t27 s QR :=
  wpc_mp (E := env) (L := LFE env 3 n0 ro rt) (N := 118) (lv := lv3) (ct := ct3) (rs := [.tmp 12]) (QR := QR) (sub b3 [1, 1, 1, 1, 1, 1, 1, 1, 1, 1]) [] [(16, t16), (17, t17), (18, t18), (19, t19), (20, t20), (21, t21), (22, t22), (23, t23), (24, t24), (25, t25), (26, t26), (27, t27)] s h (by kernel_rfl)

theorem e3 {t0 t1 t2 t3 t4 t5 : AV} {u0 u1 u2 u3 u4 u5 : AV} {Post : AV → Prop} (hcl : closeL [] 0 0 [t0, t1, t2, t3, t4, t5] = some [u0, u1, u2, u3, u4, u5]) (h : P3_0 0 0 0 u0 u1 u2 u3 u4 u5 ⟨[], []⟩ (QP Post)) : PureC env 3 [t0, t1, t2, t3, t4, t5] Post :=
  call_rd (fn := Tryz.f3) (body := b3) Tryz.func3 (by kernel_rfl) (by kernel_rfl) (by kernel_rfl) (Nat.le_of_ble_eq_true (by kernel_rfl)) hcl (mpK h (by kernel_rfl))

theorem i3 {t0 t1 t2 t3 t4 t5 : AV} {s : Sto} {Post : AV → Prop} (hcl : closeL [] 0 0 [t0, t1, t2, t3, t4, t5] = none) (h : P3_0 s.bs.length s.bs.length s.ts.length t0 t1 t2 t3 t4 t5 s (QI s.bs.length s.ts.length Post)) : ∃ v, Post v ∧ ∀ L, CallE env L 3 [t0, t1, t2, t3, t4, t5] s v s :=
  call_rdI (fn := Tryz.f3) (body := b3) Tryz.func3 (by kernel_rfl) (by kernel_rfl) (by kernel_rfl) (Nat.le_of_ble_eq_true (by kernel_rfl)) hcl (mpK h (by kernel_rfl))

/-! 10: telpher/telmake.New -/
noncomputable def b10 : Code := Tryz.f10.body.getD .skip
def lv10 (f : Nat) : List Nat := bif Nat.beq f 1 then [0] else []
def ct10 (f : Nat) : Bool := false
def P10_0 (n0 ro rt : Nat) (t0 : AV) (s : Sto) (QR : AV → Sto → Prop) : Prop := Wp env (LFE env 10 n0 ro rt) 6 [.tmp 2] (sub b10 []) [] [(0, t0)] s QR

theorem p10_0 {n0 ro rt : Nat} {t0 : AV} {s : Sto} {QR : AV → Sto → Prop} (h :
 wBuild [(.capped []), (I64 0)] [(0, 1, t0)] fun a4 =>
 wBox s a4 fun a5 s1x0 =>
 QR a5 s1x0) : P10_0 n0 ro rt t0 s QR :=
  wpc_mp (E := env) (L := LFE env 10 n0 ro rt) (N := 6) (lv := lv10) (ct := ct10) (rs := [.tmp 2]) (QR := QR) (sub b10 []) [] [(0, t0)] s h (by kernel_rfl)

theorem m10 {t0 : AV} {L : Lim} {s : Sto} {Post : AV → Sto → Prop} (h : P10_0 L.n0 L.ro L.rt t0 s Post) : ∃ v s', Post v s' ∧ CallE env L 10 [t0] s v s' :=
  call_esc (fn := Tryz.f10) (body := b10) Tryz.func10 (by kernel_rfl) (by kernel_rfl) (by kernel_rfl) (Nat.le_of_ble_eq_true (by kernel_rfl)) (mpK h (by kernel_rfl))

/-! 11: telpher/telmake.Value -/
noncomputable def b11 : Code := Tryz.f11.body.getD .skip
def lv11 (f : Nat) : List Nat := bif Nat.blt f 13 then (
 bif Nat.blt f 5 then (
  bif Nat.blt f 2 then (
   bif Nat.beq f 1 then [0, 1, 2, 6] else []) else (
   bif Nat.blt f 3 then (
    bif Nat.beq f 2 then [0, 1, 2, 6, 7] else []) else (
    bif Nat.beq f 3 then [0, 1, 2, 6, 7, 12] else []))) else (
  bif Nat.blt f 9 then (
   bif Nat.blt f 7 then (
    bif Nat.beq f 5 then [0, 1, 2, 6, 7, 19] else []) else (
    bif Nat.beq f 7 then [0, 1, 2, 6, 7, 23] else [])) else (
   bif Nat.blt f 11 then (
    bif Nat.beq f 9 then [0, 1, 2, 6, 7, 30] else []) else (
    bif Nat.beq f 11 then [0, 1, 2, 6, 7, 41] else [])))) else (
 bif Nat.blt f 18 then (
  bif Nat.blt f 16 then (
   bif Nat.blt f 15 then (
    bif Nat.beq f 13 then [0, 1, 2, 6, 49] else []) else (
    bif Nat.beq f 15 then [0, 1, 2, 6, 65] else [])) else (
   bif Nat.blt f 17 then (
    bif Nat.beq f 16 then [0, 1, 2, 6] else []) else (
    bif Nat.beq f 17 then [0, 1, 2, 6, 8] else []))) else (
  bif Nat.blt f 20 then (
   bif Nat.blt f 19 then (
    bif Nat.beq f 18 then [0, 1, 2, 6, 8, 9] else []) else (
    bif Nat.beq f 19 then [0, 1, 2, 6, 8, 9] else [])) else (
   bif Nat.blt f 21 then (
    bif Nat.beq f 20 then [0, 1, 2, 6, 8, 9] else []) else (
    bif Nat.beq f 21 then [6, 8] else []))))
def ct11 (f : Nat) : Bool := false
def P11_0 (n0 ro rt : Nat) (t0 t1 t2 : AV) (s : Sto) (QR : AV → Sto → Prop) : Prop := Wp env (LFE env 11 n0 ro rt) 87 [.cell 6 27] (sub b11 []) [] [(0, t0), (1, t1), (2, t2)] s QR
def P11_1 (n0 ro rt : Nat) (t0 t1 t2 t6 : AV) (s : Sto) (QR : AV → Sto → Prop) : Prop := Wp env (LFE env 11 n0 ro rt) 87 [.cell 6 27] (sub b11 [1, 1]) [] [(0, t0), (1, t1), (2, t2), (6, t6)] s QR
def P11_2 (n0 ro rt : Nat) (t0 t1 t2 t6 t8 t9 : AV) (s : Sto) (QR : AV → Sto → Prop) : Prop := Wp env (LFE env 11 n0 ro rt) 87 [.cell 6 27] (.loop (sub b11 [1, 1, 1, 0, 1, 0, 0])) [.blk 1, .seq (sub b11 [1, 1, 1, 1])] [(0, t0), (1, t1), (2, t2), (6, t6), (8, t8), (9, t9)] s QR
def P11_3 (n0 ro rt : Nat) (t0 t1 t2 t6 t8 t9 : AV) (s : Sto) (QR : AV → Sto → Prop) : Prop := Wp env (LFE env 11 n0 ro rt) 87 [.cell 6 27] (sub b11 [1, 1, 1, 0, 1, 0, 0, 1]) [.loop (sub b11 [1, 1, 1, 0, 1, 0, 0]), .blk 1, .seq (sub b11 [1, 1, 1, 1])] [(0, t0), (1, t1), (2, t2), (6, t6), (8, t8), (9, t9)] s QR
def P11_4 (n0 ro rt : Nat) (t6 t8 : AV) (s : Sto) (QR : AV → Sto → Prop) : Prop := Wp env (LFE env 11 n0 ro rt) 87 [.cell 6 27] (sub b11 [1, 1, 1, 1]) [] [(6, t6), (8, t8)] s QR
def P11_5 (n0 ro rt : Nat) (t0 t1 t2 t6 t8 t9 : AV) (s : Sto) (QR : AV → Sto → Prop) : Prop := Wp env (LFE env 11 n0 ro rt) 87 [.cell 6 27] (sub b11 [1, 1, 1, 0, 1, 0, 0, 1, 1]) [.loop (sub b11 [1, 1, 1, 0, 1, 0, 0]), .blk 1, .seq (sub b11 [1, 1, 1, 1])] [(0, t0), (1, t1), (2, t2), (6, t6), (8, t8), (9, t9)] s QR

theorem p11_0 {n0 ro rt : Nat} {t0 t1 t2 : AV} {s : Sto} {QR : AV → Sto → Prop} (h :
 wNew s [(I64 0), (I64 0), (SS []), (.capped [])] fun a6 s1x0 =>
 wCall env (LFE env 11 n0 ro rt) (.func (.func 39) [] []) [t0, (I64 12)] s1x0 fun a11 s1x1 =>
 wInt .i64 .lss a11 (I64 3) fun a14 =>
 wCond a14 (
 wCall env (LFE env 11 n0 ro rt) (.func (.func 39) [] []) [t0, (I64 9)] s1x1 fun a16 s1x2 =>
 wInt .i64 .sub a16 (I64 4) fun a17 =>
 wBuild [(I64 0), (I64 0), (SS []), (.capped [])] [(0, 1, (I64 1)), (1, 1, a17)] fun a18 =>
 wSt (LFE env 11 n0 ro rt) s1x2 4 a6 a18 fun s1x3 =>
 wLd env s1x3 (some 4) a6 fun r =>
 QR r s1x3) (
 wInt .i64 .eql a11 (I64 3) fun a21 =>
 wCond a21 (
 wBuild [(I64 0), (I64 0), (SS []), (.capped [])] [] fun a22 =>
 wSt (LFE env 11 n0 ro rt) s1x1 4 a6 a22 fun s1x4 =>
 wLd env s1x4 (some 4) a6 fun rx5 =>
 QR rx5 s1x4) (
 wInt .i64 .eql a11 (I64 4) fun a25 =>
 wCond a25 (
 wCall env (LFE env 11 n0 ro rt) (.func (.func 39) [] []) [t0, (I64 9)] s1x1 fun a27 s1x6 =>
 wInt .i64 .quo a27 (I64 4) fun a28 =>
 wBuild [(I64 0), (I64 0), (SS []), (.capped [])] [(0, 1, (I64 2)), (1, 1, a28)] fun a29 =>
 wSt (LFE env 11 n0 ro rt) s1x6 4 a6 a29 fun s1x7 =>
 wLd env s1x7 (some 4) a6 fun rx8 =>
 QR rx8 s1x7) (
 wInt .i64 .eql a11 (I64 5) fun a32 =>
 wCond a32 (
 wLd env s1x1 none (.gptr 0 0) fun a33 =>
 wLd env s1x1 none (.gptr 0 0) fun a35 =>
 wLen s1x1 a35 fun a36 =>
 wCall env (LFE env 11 n0 ro rt) (.func (.func 39) [] []) [t0, a36] s1x1 fun a37 s1x9 =>
 wIdx s1x9 1 a33 a37 fun a38 =>
 wLd env s1x9 none a38 fun a39 =>
 wBuild [(I64 0), (I64 0), (SS []), (.capped [])] [(0, 1, (I64 3)), (2, 1, a39)] fun a40 =>
 wSt (LFE env 11 n0 ro rt) s1x9 4 a6 a40 fun s1x10 =>
(wLd env s1x9 none (.gptr 0 0) fun v => eqA v a33 = true) ∧
 wLd env s1x10 (some 4) a6 fun rx11 =>
 QR rx11 s1x10) (
 wInt .i64 .lss a11 (I64 9) fun a43 =>
 wCond a43 (
 wInt .i64 .add t1 (I64 1) fun a46 =>
 wCall env (LFE env 11 n0 ro rt) (.func (.func 39) [] []) [t0, a46] s1x1 fun a47 s1x12 =>
 wBuild [(I64 0), (I64 0), (SS []), (.capped [])] [(0, 1, (I64 5)), (1, 1, a47)] fun a48 =>
 wSt (LFE env 11 n0 ro rt) s1x12 4 a6 a48 fun s1x13 =>
 wLd env s1x13 (some 4) a6 fun rx14 =>
 QR rx14 s1x13) (
 wInt .i64 .eql a11 (I64 9) fun a51 =>
 wGK a51 true s1x1 (fun K => K t0 s1x1) fun a53 s1x15 =>
 wGK a51 true s1x15 (fun K => wCall env (LFE env 11 n0 ro rt) (.func (.func 39) [] []) [a53, (I64 3)] s1x15 fun a54 s1x16 => K a54 s1x16) fun a54x17 s1x18 =>
 wGK a51 true s1x18 (fun K => wInt .i64 .eql a54x17 (I64 0) fun a55 => K a55 s1x18) fun a55x19 s1x20 =>
 wPick a51 a55x19 (BB false) fun a56 =>
 wCond a56 (
 wBsl false s1x20 1 [(I64 0)] 6 [(0, 1, (I64 (-1))), (1, 1, (I64 1)), (2, 1, (I64 2)), (3, 1, (I64 5)), (4, 1, (I64 6)), (5, 1, (I64 7))] fun a57 s1x21 =>
 wCall env (LFE env 11 n0 ro rt) (.func (.func 39) [] []) [t0, (I64 6)] s1x20 fun a59 s1x22 =>
 wIdx s1x22 1 a57 a59 fun a60 =>
 wLd env s1x22 none a60 fun a61 =>
 wCall env (LFE env 11 n0 ro rt) (.func (.func 56) [] []) [t0] s1x22 fun a63 s1x23 =>
 wBuild [(I64 0), (I64 0), (SS []), (.capped [])] [(0, 1, a61), (1, 1, a63)] fun a64 =>
 wSt (LFE env 11 n0 ro rt) s1x23 4 a6 a64 fun s1x24 =>
(wIdx s1x23 1 a57 a59 fun vx25 => eqA vx25 a60 = true) ∧
(wLd env s1x23 none a60 fun vx26 => eqA vx26 a61 = true) ∧
 wLd env s1x24 (some 4) a6 fun rx27 =>
 QR rx27 s1x24) (
 wInt .i64 .leq t2 (I64 0) fun a67 =>
 wCond a67 (
 wBuild [(I64 0), (I64 0), (SS []), (.capped [])] [(0, 1, (I64 1)), (1, 1, (I64 1))] fun a68 =>
 wSt (LFE env 11 n0 ro rt) s1x20 4 a6 a68 fun s1x28 =>
 wLd env s1x28 (some 4) a6 fun rx29 =>
 QR rx29 s1x28) (
 P11_1 n0 ro rt t0 t1 t2 a6 s1x20 QR)))))))) : P11_0 n0 ro rt t0 t1 t2 s QR :=
  wpc_mp (E := env) (L := LFE env 11 n0 ro rt) (N := 87) (lv := lv11) (ct := ct11) (rs := [.cell 6 27]) (QR := QR) (sub b11 []) [] [(0, t0), (1, t1), (2, t2)] s h (by kernel_rfl)

theorem p11_1 {n0 ro rt : Nat} {t0 t1 t2 t6 : AV} {s : Sto} {QR : AV → Sto → Prop} (h :
 wBuild [(I64 0), (I64 0), (SS []), (.capped [])] [(0, 1, (I64 4))] fun a69 =>
 wNew s [(I64 0), (I64 0), (SS []), (.capped [])] fun a8 s1x0 =>
 wSt (LFE env 11 n0 ro rt) s1x0 4 a8 a69 fun s1x1 =>
 wCall env (LFE env 11 n0 ro rt) (.func (.func 39) [] []) [t0, (I64 3)] s1x1 fun a71 s1x2 =>
 P11_2 n0 ro rt t0 t1 t2 t6 a8 a71 s1x2 QR) : P11_1 n0 ro rt t0 t1 t2 t6 s QR :=
  wpc_mp (E := env) (L := LFE env 11 n0 ro rt) (N := 87) (lv := lv11) (ct := ct11) (rs := [.cell 6 27]) (QR := QR) (sub b11 [1, 1]) [] [(0, t0), (1, t1), (2, t2), (6, t6)] s h (by kernel_rfl)

theorem p11_2 {n0 ro rt : Nat} {t0 t1 t2 t6 t8 t9 : AV} {s : Sto} {QR : AV → Sto → Prop} (h :
 wInt .i64 .gtr t9 (I64 0) fun a73 =>
 wCond a73 (
 P11_3 n0 ro rt t0 t1 t2 t6 t8 t9 s QR) (
 P11_4 n0 ro rt t6 t8 s QR)) : P11_2 n0 ro rt t0 t1 t2 t6 t8 t9 s QR :=
  wpl_mp (E := env) (L := LFE env 11 n0 ro rt) (N := 87) (lv := lv11) (ct := ct11) (rs := [.cell 6 27]) (QR := QR) (sub b11 [1, 1, 1, 0, 1, 0, 0]) [.blk 1, .seq (sub b11 [1, 1, 1, 1])] [(0, t0), (1, t1), (2, t2), (6, t6), (8, t8), (9, t9)] s h (by kernel_rfl)

theorem p11_3 {n0 ro rt : Nat} {t0 t1 t2 t6 t8 t9 : AV} {s : Sto} {QR : AV → Sto → Prop} (h :
 wFad s t8 3 fun a76 =>
 wLd env s none a76 fun a77 =>
 wInt .i64 .sub t2 (I64 1) fun a81 =>
 wCall env (LFE env 11 n0 ro rt) (.func (.func 11) [] []) [t0, t1, a81] s fun a82 s1x0 =>
 wBsl false s1x0 4 [(I64 0), (I64 0), (SS []), (.capped [])] 1 [(0, 4, a82)] fun a83 s1x1 =>
(4 = 4 ∧ 4 ≠ 0) ∧ wApp false (LFE env 11 n0 ro rt) s1x0 27 4 56 a77 a83 fun a84 s1x2 =>
 wFad s1x2 t8 3 fun a85 =>
 wSt (LFE env 11 n0 ro rt) s1x2 1 a85 a84 fun s1x3 =>
(wFad s1x0 t8 3 fun v => eqA v a76 = true) ∧
(wLd env s1x0 none a76 fun vx4 => eqA vx4 a77 = true) ∧
 P11_5 n0 ro rt t0 t1 t2 t6 t8 t9 s1x3 QR) : P11_3 n0 ro rt t0 t1 t2 t6 t8 t9 s QR :=
  wpc_mp (E := env) (L := LFE env 11 n0 ro rt) (N := 87) (lv := lv11) (ct := ct11) (rs := [.cell 6 27]) (QR := QR) (sub b11 [1, 1, 1, 0, 1, 0, 0, 1]) [.loop (sub b11 [1, 1, 1, 0, 1, 0, 0]), .blk 1, .seq (sub b11 [1, 1, 1, 1])] [(0, t0), (1, t1), (2, t2), (6, t6), (8, t8), (9, t9)] s h (by kernel_rfl)

theorem p11_4 {n0 ro rt : Nat} {t6 t8 : AV} {s : Sto} {QR : AV → Sto → Prop} (h :
 wLd env s (some 4) t8 fun a86 =>
 wSt (LFE env 11 n0 ro rt) s 4 t6 a86 fun s1x0 =>
 wLd env s1x0 (some 4) t6 fun r =>
 QR r s1x0) : P11_4 n0 ro rt t6 t8 s QR :=
  wpc_mp (E := env) (L := LFE env 11 n0 ro rt) (N := 87) (lv := lv11) (ct := ct11) (rs := [.cell 6 27]) (QR := QR) (sub b11 [1, 1, 1, 1]) [] [(6, t6), (8, t8)] s h (by kernel_rfl)

theorem p11_5 {n0 ro rt : Nat} {t0 t1 t2 t6 t8 t9 : AV} {s : Sto} {QR : AV → Sto → Prop} (h :
 wInt .i64 .sub t9 (I64 1) fun a75 =>
 P11_2 n0 ro rt t0 t1 t2 t6 t8 a75 s QR) : P11_5 n0 ro rt t0 t1 t2 t6 t8 t9 s QR :=
  wpc_mp (E := env) (L := LFE env 11 n0 ro rt) (N := 87) (lv := lv11) (ct := ct11) (rs := [.cell 6 27]) (QR := QR) (sub b11 [1, 1, 1, 0, 1, 0, 0, 1, 1]) [.loop (sub b11 [1, 1, 1, 0, 1, 0, 0]), .blk 1, .seq (sub b11 [1, 1, 1, 1])] [(0, t0), (1, t1), (2, t2), (6, t6), (8, t8), (9, t9)] s h (by kernel_rfl)

theorem e11 {t0 t1 t2 : AV} {Post : AV → Prop} (hn : noIdL [t0, t1, t2] = true) (h : P11_0 0 0 0 t0 t1 t2 ⟨[], []⟩ (QP Post)) : PureC env 11 [t0, t1, t2] Post :=
  call_imp (fn := Tryz.f11) (body := b11) Tryz.func11 (by kernel_rfl) (by kernel_rfl) (by kernel_rfl) (Nat.le_of_ble_eq_true (by kernel_rfl)) hn (mpK h (by kernel_rfl))

theorem m11 {t0 t1 t2 : AV} {L : Lim} {s : Sto} {Post : AV → Sto → Prop} (hn : noIdL [t0, t1, t2] = false) (h : P11_0 0 L.ro L.rt t0 t1 t2 s (QM (L.rr 11) s.bs.length Post)) : ∃ v s', Post v s' ∧ CallE env L 11 [t0, t1, t2] s v s' :=
  call_im (fn := Tryz.f11) (body := b11) Tryz.func11 (by kernel_rfl) (by kernel_rfl) (by kernel_rfl) (Nat.le_of_ble_eq_true (by kernel_rfl)) hn (mpK h (by kernel_rfl))

/-! 12: telpher/telmake.Mod -/
noncomputable def b12 : Code := Tryz.f12.body.getD .skip
def lv12 (f : Nat) : List Nat := bif Nat.blt f 3 then (
 bif Nat.blt f 2 then (
  bif Nat.beq f 1 then [0, 1] else []) else (
  bif Nat.beq f 2 then [0, 1] else [])) else (
 bif Nat.blt f 4 then (
  bif Nat.beq f 3 then [0, 1, 9] else []) else (
  bif Nat.beq f 4 then [0] else []))
def ct12 (f : Nat) : Bool := false
def P12_0 (n0 ro rt : Nat) (t0 t1 : AV) (s : Sto) (QR : AV → Sto → Prop) : Prop := Wp env (LFE env 12 n0 ro rt) 14 [.tmp 4] (sub b12 []) [] [(0, t0), (1, t1)] s QR
def P12_1 (n0 ro rt : Nat) (t0 : AV) (s : Sto) (QR : AV → Sto → Prop) : Prop := Wp env (LFE env 12 n0 ro rt) 14 [.tmp 4] (sub b12 [1, 1, 1]) [] [(0, t0)] s QR

theorem p12_0 {n0 ro rt : Nat} {t0 t1 : AV} {s : Sto} {QR : AV → Sto → Prop} (h :
 wInt .i64 .rem t0 t1 fun a7 =>
 wInt .i64 .lss a7 (I64 0) fun a9 =>
 wCond a9 (
 wInt .i64 .add a7 t1 fun a12 =>
 P12_1 n0 ro rt a12 s QR) (
 P12_1 n0 ro rt a7 s QR)) : P12_0 n0 ro rt t0 t1 s QR :=
  wpc_mp (E := env) (L := LFE env 12 n0 ro rt) (N := 14) (lv := lv12) (ct := ct12) (rs := [.tmp 4]) (QR := QR) (sub b12 []) [] [(0, t0), (1, t1)] s h (by kernel_rfl)

theorem p12_1 {n0 ro rt : Nat} {t0 : AV} {s : Sto} {QR : AV → Sto → Prop} (h :
 QR t0 s) : P12_1 n0 ro rt t0 s QR :=
  wpc_mp (E := env) (L := LFE env 12 n0 ro rt) (N := 14) (lv := lv12) (ct := ct12) (rs := [.tmp 4]) (QR := QR) (sub b12 [1, 1, 1]) [] [(0, t0)] s h (by kernel_rfl)

theorem e12 {t0 t1 : AV} {u0 u1 : AV} {Post : AV → Prop} (hcl : closeL [] 0 0 [t0, t1] = some [u0, u1]) (h : P12_0 0 0 0 u0 u1 ⟨[], []⟩ (QP Post)) : PureC env 12 [t0, t1] Post :=
  call_rd (fn := Tryz.f12) (body := b12) Tryz.func12 (by kernel_rfl) (by kernel_rfl) (by kernel_rfl) (Nat.le_of_ble_eq_true (by kernel_rfl)) hcl (mpK h (by kernel_rfl))

theorem i12 {t0 t1 : AV} {s : Sto} {Post : AV → Prop} (hcl : closeL [] 0 0 [t0, t1] = none) (h : P12_0 s.bs.length s.bs.length s.ts.length t0 t1 s (QI s.bs.length s.ts.length Post)) : ∃ v, Post v ∧ ∀ L, CallE env L 12 [t0, t1] s v s :=
  call_rdI (fn := Tryz.f12) (body := b12) Tryz.func12 (by kernel_rfl) (by kernel_rfl) (by kernel_rfl) (Nat.le_of_ble_eq_true (by kernel_rfl)) hcl (mpK h (by kernel_rfl))

/-! 13: telpher/value.Primitive -/
noncomputable def b13 : Code := Tryz.f13.body.getD .skip
def lv13 (f : Nat) : List Nat := bif Nat.blt f 6 then (
 bif Nat.blt f 3 then (
  bif Nat.beq f 1 then [0, 4, 5, 6] else []) else (
  bif Nat.blt f 4 then (
   bif Nat.beq f 3 then [0, 4, 5, 6, 8, 9] else []) else (
   bif Nat.beq f 4 then [0, 4, 5, 6, 8, 9, 21] else []))) else (
 bif Nat.blt f 8 then (
  bif Nat.beq f 6 then [0, 4, 5, 6, 8, 9, 28] else []) else (
  bif Nat.blt f 10 then (
   bif Nat.beq f 8 then [0, 4, 5, 6, 8, 50] else []) else (
   bif Nat.beq f 10 then [4, 5, 6, 8, 68] else [])))
def ct13 (f : Nat) : Bool := false
def P13_0 (n0 ro rt : Nat) (t0 t1 t2 : AV) (s : Sto) (QR : AV → Sto → Prop) : Prop := Wp env (LFE env 13 n0 ro rt) 82 [.cell 6 27, .tmp 7] (sub b13 []) [] [(0, t0), (1, t1), (2, t2)] s QR

theorem p13_0 {n0 ro rt : Nat} {t0 t1 t2 : AV} {s : Sto} {QR : AV → Sto → Prop} (h :
 wBox s t1 fun a4 s1x0 =>
 wBox s1x0 t2 fun a5 s1x1 =>
 wNew s1x1 [(I64 0), (I64 0), (SS []), (.capped [])] fun a6 s1x2 =>
 wCall env (LFE env 13 n0 ro rt) (.func (.func 57) [] []) [] s1x2 fun a11 s1x3 =>
 wLook s1x3 (.int .i64) (.agg [(I64 0), (.pv (.sc .nilFunc))]) a11 t0 true fun a13 =>
 wExt a13 0 fun a14 =>
 wExt a13 1 fun a15 =>
 wNew s1x3 [(I64 0), (.pv (.sc .nilFunc))] fun a8 s1x4 =>
 wSt (LFE env 13 n0 ro rt) s1x4 2 a8 a14 fun s1x5 =>
 wInt .i64 .eql t0 (I64 7) fun a23 =>
 wCond a23 (
 wLd env s1x5 (some 4) a4 fun a24 =>
 wLd env s1x5 (some 4) a5 fun a25 =>
 wCall env (LFE env 13 n0 ro rt) (.func (.func 29) [] []) [a24, a25] s1x5 fun a26 s1x6 =>
 wCall env (LFE env 13 n0 ro rt) (.func (.func 58) [] []) [a26] s1x6 fun a27 s1x7 =>
 wSt (LFE env 13 n0 ro rt) s1x7 4 a6 a27 fun s1x8 =>
 wLd env s1x8 (some 4) a6 fun r =>
 QR (.tuple [r, (I64 0)]) s1x8) (
 wInt .i64 .eql t0 (I64 5) fun a30 =>
 wGK a30 true s1x5 (fun K => wFad s1x5 a4 0 fun a32 => K a32 s1x5) fun a32x9 s1x10 =>
 wGK a30 true s1x10 (fun K => wLd env s1x10 none a32x9 fun a33 => K a33 s1x10) fun a33x11 s1x12 =>
 wGK a30 true s1x12 (fun K => wInt .i64 .eql a33x11 (I64 2) fun a34 => K a34 s1x12) fun a34x13 s1x14 =>
 wPick a30 a34x13 (BB false) fun a35 =>
 wGK a35 true s1x14 (fun K => wFad s1x14 a4 1 fun a37 => K a37 s1x14) fun a37x15 s1x16 =>
 wGK a35 true s1x16 (fun K => wLd env s1x16 none a37x15 fun a38 => K a38 s1x16) fun a38x17 s1x18 =>
 wGK a35 true s1x18 (fun K => wInt .i64 .eql a38x17 (I64 0) fun a39 => K a39 s1x18) fun a39x19 s1x20 =>
 wGK a35 true s1x20 (fun K => K a39x19 s1x20) fun a40 s1x21 =>
 wGK a40 false s1x21 (fun K => wFad s1x21 a4 1 fun a41 => K a41 s1x21) fun a41x22 s1x23 =>
 wGK a40 false s1x23 (fun K => wLd env s1x23 none a41x22 fun a42 => K a42 s1x23) fun a42x24 s1x25 =>
 wGK a40 false s1x25 (fun K => wInt .i64 .eql a42x24 (I64 1) fun a43 => K a43 s1x25) fun a43x26 s1x27 =>
 wGK a35 true s1x27 (fun K => wPick a40 (BB true) a43x26 fun a44 => K a44 s1x27) fun a44x28 s1x29 =>
 wPick a35 a44x28 (BB false) fun a45 =>
 wCond a45 (
 wFad s1x29 a4 1 fun a46 =>
 wLd env s1x29 none a46 fun a47 =>
 wInt .i64 .eql a47 (I64 0) fun a48 =>
 wCall env (LFE env 13 n0 ro rt) (.func (.func 58) [] []) [a48] s1x29 fun a49 s1x30 =>
 wSt (LFE env 13 n0 ro rt) s1x30 4 a6 a49 fun s1x31 =>
 wLd env s1x31 (some 4) a6 fun rx32 =>
 QR (.tuple [rx32, (I64 0)]) s1x31) (
 wNot a15 fun a52 =>
 wGK a52 false s1x29 (fun K => wFad s1x29 a4 0 fun a54 => K a54 s1x29) fun a54x33 s1x34 =>
 wGK a52 false s1x34 (fun K => wLd env s1x34 none a54x33 fun a55 => K a55 s1x34) fun a55x35 s1x36 =>
 wGK a52 false s1x36 (fun K => wFad s1x36 a8 0 fun a56 => K a56 s1x36) fun a56x37 s1x38 =>
 wGK a52 false s1x38 (fun K => wLd env s1x38 none a56x37 fun a57 => K a57 s1x38) fun a57x39 s1x40 =>
 wGK a52 false s1x40 (fun K => wInt .i64 .neq a55x35 a57x39 fun a58 => K a58 s1x40) fun a58x41 s1x42 =>
 wPick a52 (BB true) a58x41 fun a59 =>
 wGK a59 false s1x42 (fun K => wFad s1x42 a5 0 fun a61 => K a61 s1x42) fun a61x43 s1x44 =>
 wGK a59 false s1x44 (fun K => wLd env s1x44 none a61x43 fun a62 => K a62 s1x44) fun a62x45 s1x46 =>
 wGK a59 false s1x46 (fun K => wFad s1x46 a8 0 fun a63 => K a63 s1x46) fun a63x47 s1x48 =>
 wGK a59 false s1x48 (fun K => wLd env s1x48 none a63x47 fun a64 => K a64 s1x48) fun a64x49 s1x50 =>
 wGK a59 false s1x50 (fun K => wInt .i64 .neq a62x45 a64x49 fun a65 => K a65 s1x50) fun a65x51 s1x52 =>
 wPick a59 (BB true) a65x51 fun a66 =>
 wCond a66 (
 wBuild [(I64 0), (I64 0), (SS []), (.capped [])] [] fun a67 =>
 wSt (LFE env 13 n0 ro rt) s1x52 4 a6 a67 fun s1x53 =>
 wLd env s1x53 (some 4) a6 fun rx54 =>
 QR (.tuple [rx54, (I64 3)]) s1x53) (
 wInt .i64 .eql t0 (I64 6) fun a70 =>
 wGK a70 true s1x52 (fun K => wFad s1x52 a4 2 fun a72 => K a72 s1x52) fun a72x55 s1x56 =>
 wGK a70 true s1x56 (fun K => wLd env s1x56 none a72x55 fun a73 => K a73 s1x56) fun a73x57 s1x58 =>
 wGK a70 true s1x58 (fun K => wSlen a73x57 fun a74 => K a74 s1x58) fun a74x59 s1x60 =>
 wGK a70 true s1x60 (fun K => wFad s1x60 a5 2 fun a75 => K a75 s1x60) fun a75x61 s1x62 =>
 wGK a70 true s1x62 (fun K => wLd env s1x62 none a75x61 fun a76 => K a76 s1x62) fun a76x63 s1x64 =>
 wGK a70 true s1x64 (fun K => wSlen a76x63 fun a77 => K a77 s1x64) fun a77x65 s1x66 =>
 wGK a70 true s1x66 (fun K => wInt .i64 .add a74x59 a77x65 fun a78 => K a78 s1x66) fun a78x67 s1x68 =>
 wGK a70 true s1x68 (fun K => wInt .i64 .gtr a78x67 (I64 2000) fun a79 => K a79 s1x68) fun a79x69 s1x70 =>
 wPick a70 a79x69 (BB false) fun a80 =>
 wCond a80 (
 wBuild [(I64 0), (I64 0), (SS []), (.capped [])] [] fun a81 =>
 wSt (LFE env 13 n0 ro rt) s1x70 4 a6 a81 fun s1x71 =>
 wLd env s1x71 (some 4) a6 fun rx72 =>
 QR (.tuple [rx72, (I64 5)]) s1x71) (
 wFad s1x70 a8 1 fun a16 =>
 wLd env s1x70 none a16 fun a17 =>
 wLd env s1x70 (some 4) a4 fun a18 =>
 wLd env s1x70 (some 4) a5 fun a19 =>
 wCall env (LFE env 13 n0 ro rt) a17 [a18, a19] s1x70 fun a20 s1x73 =>
 wSt (LFE env 13 n0 ro rt) s1x73 4 a6 a20 fun s1x74 =>
 wLd env s1x74 (some 4) a6 fun rx75 =>
 QR (.tuple [rx75, (I64 0)]) s1x74))))) : P13_0 n0 ro rt t0 t1 t2 s QR :=
  wpc_mp (E := env) (L := LFE env 13 n0 ro rt) (N := 82) (lv := lv13) (ct := ct13) (rs := [.cell 6 27, .tmp 7]) (QR := QR) (sub b13 []) [] [(0, t0), (1, t1), (2, t2)] s h (by kernel_rfl)

theorem e13 {t0 t1 t2 : AV} {u0 u1 u2 : AV} {Post : AV → Prop} (hcl : closeL [] 0 0 [t0, t1, t2] = some [u0, u1, u2]) (h : P13_0 0 0 0 u0 u1 u2 ⟨[], []⟩ (QP Post)) : PureC env 13 [t0, t1, t2] Post :=
  call_rd (fn := Tryz.f13) (body := b13) Tryz.func13 (by kernel_rfl) (by kernel_rfl) (by kernel_rfl) (Nat.le_of_ble_eq_true (by kernel_rfl)) hcl (mpK h (by kernel_rfl))

theorem i13 {t0 t1 t2 : AV} {s : Sto} {Post : AV → Prop} (hcl : closeL [] 0 0 [t0, t1, t2] = none) (h : P13_0 s.bs.length s.bs.length s.ts.length t0 t1 t2 s (QI s.bs.length s.ts.length Post)) : ∃ v, Post v ∧ ∀ L, CallE env L 13 [t0, t1, t2] s v s :=
  call_rdI (fn := Tryz.f13) (body := b13) Tryz.func13 (by kernel_rfl) (by kernel_rfl) (by kernel_rfl) (Nat.le_of_ble_eq_true (by kernel_rfl)) hcl (mpK h (by kernel_rfl))

/-! 14: telpher/telref17.Primitive -/
noncomputable def b14 : Code := Tryz.f14.body.getD .skip
def lv14 (f : Nat) : List Nat := bif Nat.blt f 11 then (
 bif Nat.blt f 5 then (
  bif Nat.blt f 2 then (
   bif Nat.beq f 1 then [0, 4, 5, 6] else []) else (
   bif Nat.blt f 3 then (
    bif Nat.beq f 2 then [0, 4, 5, 6, 8] else []) else (
    bif Nat.beq f 3 then [0, 4, 5, 6, 8, 17] else []))) else (
  bif Nat.blt f 7 then (
   bif Nat.beq f 5 then [0, 4, 5, 6, 8, 29] else []) else (
   bif Nat.blt f 9 then (
    bif Nat.beq f 7 then [0, 4, 5, 6, 8, 41] else []) else (
    bif Nat.beq f 9 then [0, 4, 5, 6, 53] else [])))) else (
 bif Nat.blt f 15 then (
  bif Nat.blt f 13 then (
   bif Nat.beq f 11 then [0, 4, 5, 6, 65] else []) else (
   bif Nat.blt f 14 then (
    bif Nat.beq f 13 then [0, 4, 5, 6, 76] else []) else (
    bif Nat.beq f 14 then [4, 5, 6, 96] else []))) else (
  bif Nat.blt f 17 then (
   bif Nat.beq f 15 then [4, 5, 6] else []) else (
   bif Nat.blt f 18 then (
    bif Nat.beq f 17 then [4, 5, 6, 104] else []) else (
    bif Nat.beq f 18 then [6] else []))))
def ct14 (f : Nat) : Bool := false
def P14_0 (n0 ro rt : Nat) (t0 t1 t2 : AV) (s : Sto) (QR : AV → Sto → Prop) : Prop := Wp env (LFE env 14 n0 ro rt) 112 [.cell 6 27, .tmp 7] (sub b14 []) [] [(0, t0), (1, t1), (2, t2)] s QR
def P14_1 (n0 ro rt : Nat) (t4 t5 t6 : AV) (s : Sto) (QR : AV → Sto → Prop) : Prop := Wp env (LFE env 14 n0 ro rt) 112 [.cell 6 27, .tmp 7] (sub b14 [1, 1, 0, 0, 1, 1, 1, 1, 1, 1, 1, 1, 1, 1, 1, 0, 1]) [.blk 0, .seq (sub b14 [1, 1, 1])] [(4, t4), (5, t5), (6, t6)] s QR
def P14_2 (n0 ro rt : Nat) (t6 : AV) (s : Sto) (QR : AV → Sto → Prop) : Prop := Wp env (LFE env 14 n0 ro rt) 112 [.cell 6 27, .tmp 7] (sub b14 [1, 1, 1]) [] [(6, t6)] s QR

theorem p14_0 {n0 ro rt : Nat} {t0 t1 t2 : AV} {s : Sto} {QR : AV → Sto → Prop} (h :
 wBox s t1 fun a4 s1x0 =>
 wBox s1x0 t2 fun a5 s1x1 =>
 wNew s1x1 [(I64 0), (I64 0), (SS []), (.capped [])] fun a6 s1x2 =>
 wFad s1x2 a4 0 fun a9 =>
 wLd env s1x2 none a9 fun a10 =>
 wInt .i64 .eql a10 (I64 1) fun a11 =>
 wGK a11 true s1x2 (fun K => wFad s1x2 a5 0 fun a13 => K a13 s1x2) fun a13x3 s1x4 =>
 wGK a11 true s1x4 (fun K => wLd env s1x4 none a13x3 fun a14 => K a14 s1x4) fun a14x5 s1x6 =>
 wGK a11 true s1x6 (fun K => wInt .i64 .eql a14x5 (I64 1) fun a15 => K a15 s1x6) fun a15x7 s1x8 =>
 wPick a11 a15x7 (BB false) fun a16 =>
 wInt .i64 .eql t0 (I64 1) fun a19 =>
 wGK a19 true s1x8 (fun K => K a16 s1x8) fun a21 s1x9 =>
 wPick a19 a21 (BB false) fun a22 =>
 wCond a22 (
 wFad s1x9 a4 1 fun a23 =>
 wLd env s1x9 none a23 fun a24 =>
 wFad s1x9 a5 1 fun a25 =>
 wLd env s1x9 none a25 fun a26 =>
 wInt .i64 .add a24 a26 fun a27 =>
 wCall env (LFE env 14 n0 ro rt) (.func (.func 59) [] []) [a27] s1x9 fun a28 s1x10 =>
 wSt (LFE env 14 n0 ro rt) s1x10 4 a6 a28 fun s1x11 =>
 wLd env s1x11 (some 4) a6 fun r =>
 QR (.tuple [r, (I64 0)]) s1x11) (
 wInt .i64 .eql t0 (I64 2) fun a31 =>
 wGK a31 true s1x9 (fun K => K a16 s1x9) fun a33 s1x12 =>
 wPick a31 a33 (BB false) fun a34 =>
 wCond a34 (
 wFad s1x12 a4 1 fun a35 =>
 wLd env s1x12 none a35 fun a36 =>
 wFad s1x12 a5 1 fun a37 =>
 wLd env s1x12 none a37 fun a38 =>
 wInt .i64 .sub a36 a38 fun a39 =>
 wCall env (LFE env 14 n0 ro rt) (.func (.func 59) [] []) [a39] s1x12 fun a40 s1x13 =>
 wSt (LFE env 14 n0 ro rt) s1x13 4 a6 a40 fun s1x14 =>
 wLd env s1x14 (some 4) a6 fun rx15 =>
 QR (.tuple [rx15, (I64 0)]) s1x14) (
 wInt .i64 .eql t0 (I64 3) fun a43 =>
 wGK a43 true s1x12 (fun K => K a16 s1x12) fun a45 s1x16 =>
 wPick a43 a45 (BB false) fun a46 =>
 wCond a46 (
 wFad s1x16 a4 1 fun a47 =>
 wLd env s1x16 none a47 fun a48 =>
 wFad s1x16 a5 1 fun a49 =>
 wLd env s1x16 none a49 fun a50 =>
 wInt .i64 .mul a48 a50 fun a51 =>
 wCall env (LFE env 14 n0 ro rt) (.func (.func 59) [] []) [a51] s1x16 fun a52 s1x17 =>
 wSt (LFE env 14 n0 ro rt) s1x17 4 a6 a52 fun s1x18 =>
 wLd env s1x18 (some 4) a6 fun rx19 =>
 QR (.tuple [rx19, (I64 0)]) s1x18) (
 wInt .i64 .eql t0 (I64 4) fun a55 =>
 wGK a55 true s1x16 (fun K => K a16 s1x16) fun a57 s1x20 =>
 wPick a55 a57 (BB false) fun a58 =>
 wCond a58 (
 wFad s1x20 a4 1 fun a59 =>
 wLd env s1x20 none a59 fun a60 =>
 wFad s1x20 a5 1 fun a61 =>
 wLd env s1x20 none a61 fun a62 =>
 wInt .i64 .lss a60 a62 fun a63 =>
 wCall env (LFE env 14 n0 ro rt) (.func (.func 60) [] []) [a63] s1x20 fun a64 s1x21 =>
 wSt (LFE env 14 n0 ro rt) s1x21 4 a6 a64 fun s1x22 =>
 wLd env s1x22 (some 4) a6 fun rx23 =>
 QR (.tuple [rx23, (I64 0)]) s1x22) (
 wInt .i64 .eql t0 (I64 5) fun a67 =>
 wGK a67 true s1x20 (fun K => wLd env s1x20 (some 4) a4 fun a69 => K a69 s1x20) fun a69x24 s1x25 =>
 wGK a67 true s1x25 (fun K => wCall env (LFE env 14 n0 ro rt) (.func (.func 61) [] []) [a69x24] s1x25 fun a70 s1x26 => K a70 s1x26) fun a70x27 s1x28 =>
 wPick a67 a70x27 (BB false) fun a71 =>
 wCond a71 (
 wFad s1x28 a4 1 fun a72 =>
 wLd env s1x28 none a72 fun a73 =>
 wInt .i64 .eql a73 (I64 0) fun a74 =>
 wCall env (LFE env 14 n0 ro rt) (.func (.func 60) [] []) [a74] s1x28 fun a75 s1x29 =>
 wSt (LFE env 14 n0 ro rt) s1x29 4 a6 a75 fun s1x30 =>
 wLd env s1x30 (some 4) a6 fun rx31 =>
 QR (.tuple [rx31, (I64 0)]) s1x30) (
 wInt .i64 .eql t0 (I64 6) fun a78 =>
 wGK a78 true s1x28 (fun K => wFad s1x28 a4 0 fun a80 => K a80 s1x28) fun a80x32 s1x33 =>
 wGK a78 true s1x33 (fun K => wLd env s1x33 none a80x32 fun a81 => K a81 s1x33) fun a81x34 s1x35 =>
 wGK a78 true s1x35 (fun K => wInt .i64 .eql a81x34 (I64 3) fun a82 => K a82 s1x35) fun a82x36 s1x37 =>
 wPick a78 a82x36 (BB false) fun a83 =>
 wGK a83 true s1x37 (fun K => wFad s1x37 a5 0 fun a85 => K a85 s1x37) fun a85x38 s1x39 =>
 wGK a83 true s1x39 (fun K => wLd env s1x39 none a85x38 fun a86 => K a86 s1x39) fun a86x40 s1x41 =>
 wGK a83 true s1x41 (fun K => wInt .i64 .eql a86x40 (I64 3) fun a87 => K a87 s1x41) fun a87x42 s1x43 =>
 wPick a83 a87x42 (BB false) fun a88 =>
 wCond a88 (
 wFad s1x43 a4 2 fun a89 =>
 wLd env s1x43 none a89 fun a90 =>
 wSlen a90 fun a91 =>
 wFad s1x43 a5 2 fun a92 =>
 wLd env s1x43 none a92 fun a93 =>
 wSlen a93 fun a94 =>
 wInt .i64 .add a91 a94 fun a95 =>
 wInt .i64 .gtr a95 (I64 2000) fun a96 =>
 wCond a96 (
 wBuild [(I64 0), (I64 0), (SS []), (.capped [])] [] fun a97 =>
 wSt (LFE env 14 n0 ro rt) s1x43 4 a6 a97 fun s1x44 =>
 wLd env s1x44 (some 4) a6 fun rx45 =>
 QR (.tuple [rx45, (I64 5)]) s1x44) (
 P14_1 n0 ro rt a4 a5 a6 s1x43 QR)) (
 wInt .i64 .eql t0 (I64 7) fun a106 =>
 wCond a106 (
 wLd env s1x43 (some 4) a4 fun a107 =>
 wLd env s1x43 (some 4) a5 fun a108 =>
 wCall env (LFE env 14 n0 ro rt) (.func (.func 54) [] []) [a107, a108] s1x43 fun a109 s1x46 =>
 wCall env (LFE env 14 n0 ro rt) (.func (.func 60) [] []) [a109] s1x46 fun a110 s1x47 =>
 wSt (LFE env 14 n0 ro rt) s1x47 4 a6 a110 fun s1x48 =>
 wLd env s1x48 (some 4) a6 fun rx49 =>
 QR (.tuple [rx49, (I64 0)]) s1x48) (
 P14_2 n0 ro rt a6 s1x43 QR)))))))) : P14_0 n0 ro rt t0 t1 t2 s QR :=
  wpc_mp (E := env) (L := LFE env 14 n0 ro rt) (N := 112) (lv := lv14) (ct := ct14) (rs := [.cell 6 27, .tmp 7]) (QR := QR) (sub b14 []) [] [(0, t0), (1, t1), (2, t2)] s h (by kernel_rfl)

theorem p14_1 {n0 ro rt : Nat} {t4 t5 t6 : AV} {s : Sto} {QR : AV → Sto → Prop} (h :
 wFad s t4 2 fun a98 =>
 wLd env s none a98 fun a99 =>
 wFad s t5 2 fun a100 =>
 wLd env s none a100 fun a101 =>
 wStr .add a99 a101 fun a102 =>
 wBuild [(I64 0), (I64 0), (SS []), (.capped [])] [(0, 1, (I64 3)), (2, 1, a102)] fun a103 =>
 wSt (LFE env 14 n0 ro rt) s 4 t6 a103 fun s1x0 =>
 wLd env s1x0 (some 4) t6 fun r =>
 QR (.tuple [r, (I64 0)]) s1x0) : P14_1 n0 ro rt t4 t5 t6 s QR :=
  wpc_mp (E := env) (L := LFE env 14 n0 ro rt) (N := 112) (lv := lv14) (ct := ct14) (rs := [.cell 6 27, .tmp 7]) (QR := QR) (sub b14 [1, 1, 0, 0, 1, 1, 1, 1, 1, 1, 1, 1, 1, 1, 1, 0, 1]) [.blk 0, .seq (sub b14 [1, 1, 1])] [(4, t4), (5, t5), (6, t6)] s h (by kernel_rfl)

theorem p14_2 {n0 ro rt : Nat} {t6 : AV} {s : Sto} {QR : AV → Sto → Prop} (h :
 wBuild [(I64 0), (I64 0), (SS []), (.capped [])] [] fun a111 =>
 wSt (LFE env 14 n0 ro rt) s 4 t6 a111 fun s1x0 =>
 wLd env s1x0 (some 4) t6 fun r =>
 QR (.tuple [r, (I64 3)]) s1x0) : P14_2 n0 ro rt t6 s QR :=
  wpc_mp (E := env) (L := LFE env 14 n0 ro rt) (N := 112) (lv := lv14) (ct := ct14) (rs := [.cell 6 27, .tmp 7]) (QR := QR) (sub b14 [1, 1, 1]) [] [(6, t6)] s h (by kernel_rfl)

theorem e14 {t0 t1 t2 : AV} {u0 u1 u2 : AV} {Post : AV → Prop} (hcl : closeL [] 0 0 [t0, t1, t2] = some [u0, u1, u2]) (h : P14_0 0 0 0 u0 u1 u2 ⟨[], []⟩ (QP Post)) : PureC env 14 [t0, t1, t2] Post :=
  call_rd (fn := Tryz.f14) (body := b14) Tryz.func14 (by kernel_rfl) (by kernel_rfl) (by kernel_rfl) (Nat.le_of_ble_eq_true (by kernel_rfl)) hcl (mpK h (by kernel_rfl))

theorem i14 {t0 t1 t2 : AV} {s : Sto} {Post : AV → Prop} (hcl : closeL [] 0 0 [t0, t1, t2] = none) (h : P14_0 s.bs.length s.bs.length s.ts.length t0 t1 t2 s (QI s.bs.length s.ts.length Post)) : ∃ v, Post v ∧ ∀ L, CallE env L 14 [t0, t1, t2] s v s :=
  call_rdI (fn := Tryz.f14) (body := b14) Tryz.func14 (by kernel_rfl) (by kernel_rfl) (by kernel_rfl) (Nat.le_of_ble_eq_true (by kernel_rfl)) hcl (mpK h (by kernel_rfl))

/-! 15: telpher/tellaw17.num -/
noncomputable def b15 : Code := Tryz.f15.body.getD .skip
def lv15 (f : Nat) : List Nat := bif Nat.beq f 1 then [0, 2] else []
def ct15 (f : Nat) : Bool := false
def P15_0 (n0 ro rt : Nat) (t0 : AV) (s : Sto) (QR : AV → Sto → Prop) : Prop := Wp env (LFE env 15 n0 ro rt) 5 [.cell 2 27] (sub b15 []) [] [(0, t0)] s QR

theorem p15_0 {n0 ro rt : Nat} {t0 : AV} {s : Sto} {QR : AV → Sto → Prop} (h :
 wNew s [(I64 0), (I64 0), (SS []), (.capped [])] fun a2 s1x0 =>
 wBuild [(I64 0), (I64 0), (SS []), (.capped [])] [(0, 1, (I64 1)), (1, 1, t0)] fun a4 =>
 wSt (LFE env 15 n0 ro rt) s1x0 4 a2 a4 fun s1x1 =>
 wLd env s1x1 (some 4) a2 fun r =>
 QR r s1x1) : P15_0 n0 ro rt t0 s QR :=
  wpc_mp (E := env) (L := LFE env 15 n0 ro rt) (N := 5) (lv := lv15) (ct := ct15) (rs := [.cell 2 27]) (QR := QR) (sub b15 []) [] [(0, t0)] s h (by kernel_rfl)

theorem e15 {t0 : AV} {u0 : AV} {Post : AV → Prop} (hcl : closeL [] 0 0 [t0] = some [u0]) (h : P15_0 0 0 0 u0 ⟨[], []⟩ (QP Post)) : PureC env 15 [t0] Post :=
  call_rd (fn := Tryz.f15) (body := b15) Tryz.func15 (by kernel_rfl) (by kernel_rfl) (by kernel_rfl) (Nat.le_of_ble_eq_true (by kernel_rfl)) hcl (mpK h (by kernel_rfl))

theorem i15 {t0 : AV} {s : Sto} {Post : AV → Prop} (hcl : closeL [] 0 0 [t0] = none) (h : P15_0 s.bs.length s.bs.length s.ts.length t0 s (QI s.bs.length s.ts.length Post)) : ∃ v, Post v ∧ ∀ L, CallE env L 15 [t0] s v s :=
  call_rdI (fn := Tryz.f15) (body := b15) Tryz.func15 (by kernel_rfl) (by kernel_rfl) (by kernel_rfl) (Nat.le_of_ble_eq_true (by kernel_rfl)) hcl (mpK h (by kernel_rfl))

/-! 17: telpher/telref1.ValueEqual -/
noncomputable def b17 : Code := Tryz.f17.body.getD .skip
def lv17 (f : Nat) : List Nat := bif Nat.blt f 5 then (
 bif Nat.blt f 3 then (
  bif Nat.blt f 2 then (
   bif Nat.beq f 1 then [2, 3] else []) else (
   bif Nat.beq f 2 then [2, 3, 33] else [])) else (
  bif Nat.blt f 4 then (
   bif Nat.beq f 3 then [2, 3] else []) else (
   bif Nat.beq f 4 then [2, 3, 5] else []))) else (
 bif Nat.blt f 7 then (
  bif Nat.blt f 6 then (
   bif Nat.beq f 5 then [2, 3, 5] else []) else (
   bif Nat.beq f 6 then [2, 3, 5] else [])) else (
  bif Nat.blt f 8 then (
   bif Nat.beq f 7 then [2, 3, 5, 52] else []) else (
   bif Nat.beq f 8 then [] else [])))
def ct17 (f : Nat) : Bool := false
def P17_0 (n0 ro rt : Nat) (t0 t1 : AV) (s : Sto) (QR : AV → Sto → Prop) : Prop := Wp env (LFE env 17 n0 ro rt) 53 [.tmp 4] (sub b17 []) [] [(0, t0), (1, t1)] s QR
def P17_1 (n0 ro rt : Nat) (t2 t3 : AV) (s : Sto) (QR : AV → Sto → Prop) : Prop := Wp env (LFE env 17 n0 ro rt) 53 [.tmp 4] (sub b17 [1, 1]) [] [(2, t2), (3, t3)] s QR
def P17_2 (n0 ro rt : Nat) (t2 t3 t5 : AV) (s : Sto) (QR : AV → Sto → Prop) : Prop := Wp env (LFE env 17 n0 ro rt) 53 [.tmp 4] (.loop (sub b17 [1, 1, 0, 1, 0, 0])) [.blk 0, .seq (sub b17 [1, 1, 1])] [(2, t2), (3, t3), (5, t5)] s QR
def P17_3 (n0 ro rt : Nat) (t2 t3 t5 : AV) (s : Sto) (QR : AV → Sto → Prop) : Prop := Wp env (LFE env 17 n0 ro rt) 53 [.tmp 4] (sub b17 [1, 1, 0, 1, 0, 0, 1]) [.loop (sub b17 [1, 1, 0, 1, 0, 0]), .blk 0, .seq (sub b17 [1, 1, 1])] [(2, t2), (3, t3), (5, t5)] s QR
def P17_4 (n0 ro rt : Nat) (s : Sto) (QR : AV → Sto → Prop) : Prop := Wp env (LFE env 17 n0 ro rt) 53 [.tmp 4] (sub b17 [1, 1, 1]) [] [] s QR
def P17_5 (n0 ro rt : Nat) (t2 t3 t5 : AV) (s : Sto) (QR : AV → Sto → Prop) : Prop := Wp env (LFE env 17 n0 ro rt) 53 [.tmp 4] (sub b17 [1, 1, 0, 1, 0, 0, 1, 1]) [.loop (sub b17 [1, 1, 0, 1, 0, 0]), .blk 0, .seq (sub b17 [1, 1, 1])] [(2, t2), (3, t3), (5, t5)] s QR

theorem p17_0 {n0 ro rt : Nat} {t0 t1 : AV} {s : Sto} {QR : AV → Sto → Prop} (h :
 wBox s t0 fun a2 s1x0 =>
 wBox s1x0 t1 fun a3 s1x1 =>
 wFad s1x1 a2 0 fun a6 =>
 wLd env s1x1 none a6 fun a7 =>
 wFad s1x1 a3 0 fun a8 =>
 wLd env s1x1 none a8 fun a9 =>
 wInt .i64 .neq a7 a9 fun a10 =>
 wGK a10 false s1x1 (fun K => wFad s1x1 a2 1 fun a12 => K a12 s1x1) fun a12x2 s1x3 =>
 wGK a10 false s1x3 (fun K => wLd env s1x3 none a12x2 fun a13 => K a13 s1x3) fun a13x4 s1x5 =>
 wGK a10 false s1x5 (fun K => wFad s1x5 a3 1 fun a14 => K a14 s1x5) fun a14x6 s1x7 =>
 wGK a10 false s1x7 (fun K => wLd env s1x7 none a14x6 fun a15 => K a15 s1x7) fun a15x8 s1x9 =>
 wGK a10 false s1x9 (fun K => wInt .i64 .neq a13x4 a15x8 fun a16 => K a16 s1x9) fun a16x10 s1x11 =>
 wPick a10 (BB true) a16x10 fun a17 =>
 wGK a17 false s1x11 (fun K => wFad s1x11 a2 2 fun a19 => K a19 s1x11) fun a19x12 s1x13 =>
 wGK a17 false s1x13 (fun K => wLd env s1x13 none a19x12 fun a20 => K a20 s1x13) fun a20x14 s1x15 =>
 wGK a17 false s1x15 (fun K => wFad s1x15 a3 2 fun a21 => K a21 s1x15) fun a21x16 s1x17 =>
 wGK a17 false s1x17 (fun K => wLd env s1x17 none a21x16 fun a22 => K a22 s1x17) fun a22x18 s1x19 =>
 wGK a17 false s1x19 (fun K => wStr .neq a20x14 a22x18 fun a23 => K a23 s1x19) fun a23x20 s1x21 =>
 wPick a17 (BB true) a23x20 fun a24 =>
 wGK a24 false s1x21 (fun K => wFad s1x21 a2 3 fun a26 => K a26 s1x21) fun a26x22 s1x23 =>
 wGK a24 false s1x23 (fun K => wLd env s1x23 none a26x22 fun a27 => K a27 s1x23) fun a27x24 s1x25 =>
 wGK a24 false s1x25 (fun K => wLen s1x25 a27x24 fun a28 => K a28 s1x25) fun a28x26 s1x27 =>
 wGK a24 false s1x27 (fun K => wFad s1x27 a3 3 fun a29 => K a29 s1x27) fun a29x28 s1x29 =>
 wGK a24 false s1x29 (fun K => wLd env s1x29 none a29x28 fun a30 => K a30 s1x29) fun a30x30 s1x31 =>
 wGK a24 false s1x31 (fun K => wLen s1x31 a30x30 fun a31 => K a31 s1x31) fun a31x32 s1x33 =>
 wGK a24 false s1x33 (fun K => wInt .i64 .neq a28x26 a31x32 fun a32 => K a32 s1x33) fun a32x34 s1x35 =>
 wPick a24 (BB true) a32x34 fun a33 =>
 wCond a33 (
 QR (BB false) s1x35) (
 P17_1 n0 ro rt a2 a3 s1x35 QR)) : P17_0 n0 ro rt t0 t1 s QR :=
  wpc_mp (E := env) (L := LFE env 17 n0 ro rt) (N := 53) (lv := lv17) (ct := ct17) (rs := [.tmp 4]) (QR := QR) (sub b17 []) [] [(0, t0), (1, t1)] s h (by kernel_rfl)

theorem p17_1 {n0 ro rt : Nat} {t2 t3 : AV} {s : Sto} {QR : AV → Sto → Prop} (h :
 P17_2 n0 ro rt t2 t3 (I64 0) s QR) : P17_1 n0 ro rt t2 t3 s QR :=
  wpc_mp (E := env) (L := LFE env 17 n0 ro rt) (N := 53) (lv := lv17) (ct := ct17) (rs := [.tmp 4]) (QR := QR) (sub b17 [1, 1]) [] [(2, t2), (3, t3)] s h (by kernel_rfl)

theorem p17_2 {n0 ro rt : Nat} {t2 t3 t5 : AV} {s : Sto} {QR : AV → Sto → Prop} (h :
 wFad s t2 3 fun a35 =>
 wLd env s none a35 fun a36 =>
 wLen s a36 fun a37 =>
 wInt .i64 .lss t5 a37 fun a38 =>
 wCond a38 (
 P17_3 n0 ro rt t2 t3 t5 s QR) (
 P17_4 n0 ro rt  s QR)) : P17_2 n0 ro rt t2 t3 t5 s QR :=
  wpl_mp (E := env) (L := LFE env 17 n0 ro rt) (N := 53) (lv := lv17) (ct := ct17) (rs := [.tmp 4]) (QR := QR) (sub b17 [1, 1, 0, 1, 0, 0]) [.blk 0, .seq (sub b17 [1, 1, 1])] [(2, t2), (3, t3), (5, t5)] s h (by kernel_rfl)

theorem p17_3 {n0 ro rt : Nat} {t2 t3 t5 : AV} {s : Sto} {QR : AV → Sto → Prop} (h :
 wFad s t2 3 fun a41 =>
 wLd env s none a41 fun a42 =>
 wIdx s 4 a42 t5 fun a44 =>
 wLd env s (some 4) a44 fun a45 =>
 wFad s t3 3 fun a46 =>
 wLd env s none a46 fun a47 =>
 wIdx s 4 a47 t5 fun a49 =>
 wLd env s (some 4) a49 fun a50 =>
 wCall env (LFE env 17 n0 ro rt) (.func (.func 17) [] []) [a45, a50] s fun a51 s1x0 =>
 wNot a51 fun a52 =>
 wCond a52 (
 QR (BB false) s1x0) (
 P17_5 n0 ro rt t2 t3 t5 s1x0 QR)) : P17_3 n0 ro rt t2 t3 t5 s QR :=
  wpc_mp (E := env) (L := LFE env 17 n0 ro rt) (N := 53) (lv := lv17) (ct := ct17) (rs := [.tmp 4]) (QR := QR) (sub b17 [1, 1, 0, 1, 0, 0, 1]) [.loop (sub b17 [1, 1, 0, 1, 0, 0]), .blk 0, .seq (sub b17 [1, 1, 1])] [(2, t2), (3, t3), (5, t5)] s h (by kernel_rfl)

theorem p17_4 {n0 ro rt : Nat} {s : Sto} {QR : AV → Sto → Prop} (h :
 QR (BB true) s) : P17_4 n0 ro rt  s QR :=
  wpc_mp (E := env) (L := LFE env 17 n0 ro rt) (N := 53) (lv := lv17) (ct := ct17) (rs := [.tmp 4]) (QR := QR) (sub b17 [1, 1, 1]) [] [] s h (by kernel_rfl)

theorem p17_5 {n0 ro rt : Nat} {t2 t3 t5 : AV} {s : Sto} {QR : AV → Sto → Prop} (h :
 wInt .i64 .add t5 (I64 1) fun a40 =>
 P17_2 n0 ro rt t2 t3 a40 s QR) : P17_5 n0 ro rt t2 t3 t5 s QR :=
  wpc_mp (E := env) (L := LFE env 17 n0 ro rt) (N := 53) (lv := lv17) (ct := ct17) (rs := [.tmp 4]) (QR := QR) (sub b17 [1, 1, 0, 1, 0, 0, 1, 1]) [.loop (sub b17 [1, 1, 0, 1, 0, 0]), .blk 0, .seq (sub b17 [1, 1, 1])] [(2, t2), (3, t3), (5, t5)] s h (by kernel_rfl)

theorem e17 {t0 t1 : AV} {u0 u1 : AV} {Post : AV → Prop} (hcl : closeL [] 0 0 [t0, t1] = some [u0, u1]) (h : P17_0 0 0 0 u0 u1 ⟨[], []⟩ (QP Post)) : PureC env 17 [t0, t1] Post :=
  call_rd (fn := Tryz.f17) (body := b17) Tryz.func17 (by kernel_rfl) (by kernel_rfl) (by kernel_rfl) (Nat.le_of_ble_eq_true (by kernel_rfl)) hcl (mpK h (by kernel_rfl))

theorem i17 {t0 t1 : AV} {s : Sto} {Post : AV → Prop} (hcl : closeL [] 0 0 [t0, t1] = none) (h : P17_0 s.bs.length s.bs.length s.ts.length t0 t1 s (QI s.bs.length s.ts.length Post)) : ∃ v, Post v ∧ ∀ L, CallE env L 17 [t0, t1] s v s :=
  call_rdI (fn := Tryz.f17) (body := b17) Tryz.func17 (by kernel_rfl) (by kernel_rfl) (by kernel_rfl) (Nat.le_of_ble_eq_true (by kernel_rfl)) hcl (mpK h (by kernel_rfl))

/-! 29: telpher/value.Identical -/
noncomputable def b29 : Code := Tryz.f29.body.getD .skip
def lv29 (f : Nat) : List Nat := bif Nat.blt f 7 then (
 bif Nat.blt f 3 then (
  bif Nat.blt f 2 then (
   bif Nat.beq f 1 then [2, 3] else []) else (
   bif Nat.beq f 2 then [2, 3, 9] else [])) else (
  bif Nat.blt f 4 then (
   bif Nat.beq f 3 then [2, 3] else []) else (
   bif Nat.blt f 5 then (
    bif Nat.beq f 4 then [2, 3, 11] else []) else (
    bif Nat.beq f 5 then [2, 3, 11, 12] else [])))) else (
 bif Nat.blt f 11 then (
  bif Nat.blt f 8 then (
   bif Nat.beq f 7 then [2, 3, 11, 14] else []) else (
   bif Nat.blt f 9 then (
    bif Nat.beq f 8 then [2, 3, 11, 14] else []) else (
    bif Nat.beq f 9 then [2, 3, 11, 14] else []))) else (
  bif Nat.blt f 13 then (
   bif Nat.beq f 11 then [2, 3, 11, 23] else []) else (
   bif Nat.blt f 14 then (
    bif Nat.beq f 13 then [2, 3, 30] else []) else (
    bif Nat.beq f 14 then [] else []))))
def ct29 (f : Nat) : Bool := false
def P29_0 (n0 ro rt : Nat) (t0 t1 : AV) (s : Sto) (QR : AV → Sto → Prop) : Prop := Wp env (LFE env 29 n0 ro rt) 37 [.tmp 4] (sub b29 []) [] [(0, t0), (1, t1)] s QR
def P29_1 (n0 ro rt : Nat) (t2 t3 : AV) (s : Sto) (QR : AV → Sto → Prop) : Prop := Wp env (LFE env 29 n0 ro rt) 37 [.tmp 4] (sub b29 [1, 1]) [] [(2, t2), (3, t3)] s QR
def P29_2 (n0 ro rt : Nat) (t2 t3 t11 t14 : AV) (s : Sto) (QR : AV → Sto → Prop) : Prop := Wp env (LFE env 29 n0 ro rt) 37 [.tmp 4] (sub b29 [1, 1, 0, 1, 0, 1, 1, 1]) [.blk 0, .seq (sub b29 [1, 1, 1])] [(2, t2), (3, t3), (11, t11), (14, t14)] s QR
def P29_3 (n0 ro rt : Nat) (s : Sto) (QR : AV → Sto → Prop) : Prop := Wp env (LFE env 29 n0 ro rt) 37 [.tmp 4] (sub b29 [1, 1, 1]) [] [] s QR

theorem p29_0 {n0 ro rt : Nat} {t0 t1 : AV} {s : Sto} {QR : AV → Sto → Prop} (h :
 wBox s t0 fun a2 s1x0 =>
 wBox s1x0 t1 fun a3 s1x1 =>
 wFad s1x1 a2 0 fun a5 =>
 wLd env s1x1 none a5 fun a6 =>
 wFad s1x1 a3 0 fun a7 =>
 wLd env s1x1 none a7 fun a8 =>
 wInt .i64 .neq a6 a8 fun a9 =>
 wCond a9 (
 QR (BB false) s1x1) (
 P29_1 n0 ro rt a2 a3 s1x1 QR)) : P29_0 n0 ro rt t0 t1 s QR :=
  wpc_mp (E := env) (L := LFE env 29 n0 ro rt) (N := 37) (lv := lv29) (ct := ct29) (rs := [.tmp 4]) (QR := QR) (sub b29 []) [] [(0, t0), (1, t1)] s h (by kernel_rfl)

theorem p29_1 {n0 ro rt : Nat} {t2 t3 : AV} {s : Sto} {QR : AV → Sto → Prop} (h :
 wFad s t2 0 fun a10 =>
 wLd env s none a10 fun a11 =>
 wInt .i64 .eql a11 (I64 0) fun a13 =>
 wCond a13 (
 QR (BB true) s) (
 wInt .i64 .eql a11 (I64 1) fun a15 =>
 wCond a15 (
 P29_2 n0 ro rt t2 t3 a11 a15 s QR) (
 wInt .i64 .eql a11 (I64 2) fun a16 =>
 wCond a16 (
 P29_2 n0 ro rt t2 t3 a11 a16 s QR) (
 wInt .i64 .eql a11 (I64 5) fun a17 =>
 P29_2 n0 ro rt t2 t3 a11 a17 s QR)))) : P29_1 n0 ro rt t2 t3 s QR :=
  wpc_mp (E := env) (L := LFE env 29 n0 ro rt) (N := 37) (lv := lv29) (ct := ct29) (rs := [.tmp 4]) (QR := QR) (sub b29 [1, 1]) [] [(2, t2), (3, t3)] s h (by kernel_rfl)

theorem p29_2 {n0 ro rt : Nat} {t2 t3 t11 t14 : AV} {s : Sto} {QR : AV → Sto → Prop} (h :
 wCond t14 (
 wFad s t2 1 fun a18 =>
 wLd env s none a18 fun a19 =>
 wFad s t3 1 fun a20 =>
 wLd env s none a20 fun a21 =>
 wInt .i64 .eql a19 a21 fun a22 =>
 QR a22 s) (
 wInt .i64 .eql t11 (I64 3) fun a24 =>
 wCond a24 (
 wFad s t2 2 fun a25 =>
 wLd env s none a25 fun a26 =>
 wFad s t3 2 fun a27 =>
 wLd env s none a27 fun a28 =>
 wStr .eql a26 a28 fun a29 =>
 QR a29 s) (
 wInt .i64 .eql t11 (I64 4) fun a31 =>
 wCond a31 (
 wFad s t2 3 fun a32 =>
 wLd env s none a32 fun a33 =>
 wFad s t3 3 fun a34 =>
 wLd env s none a34 fun a35 =>
 wCall env (LFE env 29 n0 ro rt) (.func (.func 89) [] []) [a33, a35, (.func (.func 29) [] [])] s fun a36 s1x0 =>
 QR a36 s1x0) (
 P29_3 n0 ro rt  s QR)))) : P29_2 n0 ro rt t2 t3 t11 t14 s QR :=
  wpc_mp (E := env) (L := LFE env 29 n0 ro rt) (N := 37) (lv := lv29) (ct := ct29) (rs := [.tmp 4]) (QR := QR) (sub b29 [1, 1, 0, 1, 0, 1, 1, 1]) [.blk 0, .seq (sub b29 [1, 1, 1])] [(2, t2), (3, t3), (11, t11), (14, t14)] s h (by kernel_rfl)

theorem p29_3 {n0 ro rt : Nat} {s : Sto} {QR : AV → Sto → Prop} (h :
 QR (BB false) s) : P29_3 n0 ro rt  s QR :=
  wpc_mp (E := env) (L := LFE env 29 n0 ro rt) (N := 37) (lv := lv29) (ct := ct29) (rs := [.tmp 4]) (QR := QR) (sub b29 [1, 1, 1]) [] [] s h (by kernel_rfl)

theorem e29 {t0 t1 : AV} {u0 u1 : AV} {Post : AV → Prop} (hcl : closeL [] 0 0 [t0, t1] = some [u0, u1]) (h : P29_0 0 0 0 u0 u1 ⟨[], []⟩ (QP Post)) : PureC env 29 [t0, t1] Post :=
  call_rd (fn := Tryz.f29) (body := b29) Tryz.func29 (by kernel_rfl) (by kernel_rfl) (by kernel_rfl) (Nat.le_of_ble_eq_true (by kernel_rfl)) hcl (mpK h (by kernel_rfl))

theorem i29 {t0 t1 : AV} {s : Sto} {Post : AV → Prop} (hcl : closeL [] 0 0 [t0, t1] = none) (h : P29_0 s.bs.length s.bs.length s.ts.length t0 t1 s (QI s.bs.length s.ts.length Post)) : ∃ v, Post v ∧ ∀ L, CallE env L 29 [t0, t1] s v s :=
  call_rdI (fn := Tryz.f29) (body := b29) Tryz.func29 (by kernel_rfl) (by kernel_rfl) (by kernel_rfl) (Nat.le_of_ble_eq_true (by kernel_rfl)) hcl (mpK h (by kernel_rfl))

/-! 39: (*telpher/telmake.Stream).Next -/
noncomputable def b39 : Code := Tryz.f39.body.getD .skip
def lv39 (f : Nat) : List Nat := bif Nat.blt f 3 then (
 bif Nat.blt f 2 then (
  bif Nat.beq f 1 then [0, 1] else []) else (
  bif Nat.beq f 2 then [0, 1, 14] else [])) else (
 bif Nat.blt f 4 then (
  bif Nat.beq f 3 then [0, 1] else []) else (
  bif Nat.beq f 4 then [0, 1] else []))
def ct39 (f : Nat) : Bool := false
def P39_0 (n0 ro rt : Nat) (t0 t1 : AV) (s : Sto) (QR : AV → Sto → Prop) : Prop := Wp env (LFE env 39 n0 ro rt) 35 [.tmp 4] (sub b39 []) [] [(0, t0), (1, t1)] s QR
def P39_1 (n0 ro rt : Nat) (t0 t1 : AV) (s : Sto) (QR : AV → Sto → Prop) : Prop := Wp env (LFE env 39 n0 ro rt) 35 [.tmp 4] (sub b39 [1, 1]) [] [(0, t0), (1, t1)] s QR

theorem p39_0 {n0 ro rt : Nat} {t0 t1 : AV} {s : Sto} {QR : AV → Sto → Prop} (h :
 wNil s t0 fun a6 =>
 wFad s a6 1 fun a7 =>
 wLd env s none a7 fun a8 =>
 wNil s t0 fun a10 =>
 wFad s a10 0 fun a11 =>
 wLd env s none a11 fun a12 =>
 wLen s a12 fun a13 =>
 wInt .i64 .geq a8 a13 fun a14 =>
 wCond a14 (
 QR (I64 0) s) (
 P39_1 n0 ro rt t0 t1 s QR)) : P39_0 n0 ro rt t0 t1 s QR :=
  wpc_mp (E := env) (L := LFE env 39 n0 ro rt) (N := 35) (lv := lv39) (ct := ct39) (rs := [.tmp 4]) (QR := QR) (sub b39 []) [] [(0, t0), (1, t1)] s h (by kernel_rfl)

theorem p39_1 {n0 ro rt : Nat} {t0 t1 : AV} {s : Sto} {QR : AV → Sto → Prop} (h :
 wNil s t0 fun a16 =>
 wFad s a16 1 fun a17 =>
 wLd env s none a17 fun a18 =>
 wInt .i64 .add a18 (I64 1) fun a19 =>
 wNil s t0 fun a20 =>
 wFad s a20 1 fun a21 =>
 wSt (LFE env 39 n0 ro rt) s 1 a21 a19 fun s1x0 =>
 wNil s1x0 t0 fun a23 =>
 wFad s1x0 a23 0 fun a24 =>
 wLd env s1x0 none a24 fun a25 =>
 wNil s1x0 t0 fun a27 =>
 wFad s1x0 a27 1 fun a28 =>
 wLd env s1x0 none a28 fun a29 =>
 wInt .i64 .sub a29 (I64 1) fun a30 =>
 wIdx s1x0 1 a25 a30 fun a31 =>
 wLd env s1x0 none a31 fun a32 =>
 wCall env (LFE env 39 n0 ro rt) (.func (.func 12) [] []) [a32, t1] s1x0 fun a34 s1x1 =>
 QR a34 s1x1) : P39_1 n0 ro rt t0 t1 s QR :=
  wpc_mp (E := env) (L := LFE env 39 n0 ro rt) (N := 35) (lv := lv39) (ct := ct39) (rs := [.tmp 4]) (QR := QR) (sub b39 [1, 1]) [] [(0, t0), (1, t1)] s h (by kernel_rfl)

theorem e39 {t0 t1 : AV} {Post : AV → Prop} (hn : noIdL [t0, t1] = true) (h : P39_0 0 0 0 t0 t1 ⟨[], []⟩ (QP Post)) : PureC env 39 [t0, t1] Post :=
  call_imp (fn := Tryz.f39) (body := b39) Tryz.func39 (by kernel_rfl) (by kernel_rfl) (by kernel_rfl) (Nat.le_of_ble_eq_true (by kernel_rfl)) hn (mpK h (by kernel_rfl))

theorem m39 {t0 t1 : AV} {L : Lim} {s : Sto} {Post : AV → Sto → Prop} (hn : noIdL [t0, t1] = false) (h : P39_0 0 L.ro L.rt t0 t1 s (QM (L.rr 39) s.bs.length Post)) : ∃ v s', Post v s' ∧ CallE env L 39 [t0, t1] s v s' :=
  call_im (fn := Tryz.f39) (body := b39) Tryz.func39 (by kernel_rfl) (by kernel_rfl) (by kernel_rfl) (Nat.le_of_ble_eq_true (by kernel_rfl)) hn (mpK h (by kernel_rfl))

/-! 54: telpher/telref17.Identical -/
noncomputable def b54 : Code := Tryz.f54.body.getD .skip
def lv54 (f : Nat) : List Nat := bif Nat.blt f 11 then (
 bif Nat.blt f 5 then (
  bif Nat.blt f 3 then (
   bif Nat.blt f 2 then (
    bif Nat.beq f 1 then [2, 3] else []) else (
    bif Nat.beq f 2 then [2, 3, 10] else [])) else (
   bif Nat.blt f 4 then (
    bif Nat.beq f 3 then [2, 3] else []) else (
    bif Nat.beq f 4 then [2, 3, 12] else []))) else (
  bif Nat.blt f 8 then (
   bif Nat.blt f 7 then (
    bif Nat.beq f 5 then [2, 3, 12, 13] else []) else (
    bif Nat.beq f 7 then [2, 3, 12, 15] else [])) else (
   bif Nat.blt f 9 then (
    bif Nat.beq f 8 then [2, 3, 12, 15] else []) else (
    bif Nat.beq f 9 then [2, 3, 12, 15] else [])))) else (
 bif Nat.blt f 16 then (
  bif Nat.blt f 14 then (
   bif Nat.blt f 13 then (
    bif Nat.beq f 11 then [2, 3, 12, 24] else []) else (
    bif Nat.beq f 13 then [2, 3, 31] else [])) else (
   bif Nat.blt f 15 then (
    bif Nat.beq f 14 then [2, 3, 5] else []) else (
    bif Nat.beq f 15 then [2, 3, 5] else []))) else (
  bif Nat.blt f 18 then (
   bif Nat.blt f 17 then (
    bif Nat.beq f 16 then [2, 3, 5] else []) else (
    bif Nat.beq f 17 then [2, 3, 5, 58] else [])) else (
   bif Nat.blt f 19 then (
    bif Nat.beq f 18 then [2, 3] else []) else (
    bif Nat.beq f 19 then [] else []))))
def ct54 (f : Nat) : Bool := false
def P54_0 (n0 ro rt : Nat) (t0 t1 : AV) (s : Sto) (QR : AV → Sto → Prop) : Prop := Wp env (LFE env 54 n0 ro rt) 66 [.tmp 4] (sub b54 []) [] [(0, t0), (1, t1)] s QR
def P54_1 (n0 ro rt : Nat) (t2 t3 : AV) (s : Sto) (QR : AV → Sto → Prop) : Prop := Wp env (LFE env 54 n0 ro rt) 66 [.tmp 4] (sub b54 [1, 1]) [] [(2, t2), (3, t3)] s QR
def P54_2 (n0 ro rt : Nat) (t2 t3 t12 t15 : AV) (s : Sto) (QR : AV → Sto → Prop) : Prop := Wp env (LFE env 54 n0 ro rt) 66 [.tmp 4] (sub b54 [1, 1, 0, 1, 0, 1, 1, 1]) [.blk 0, .seq (sub b54 [1, 1, 1])] [(2, t2), (3, t3), (12, t12), (15, t15)] s QR
def P54_3 (n0 ro rt : Nat) (t2 t3 t5 : AV) (s : Sto) (QR : AV → Sto → Prop) : Prop := Wp env (LFE env 54 n0 ro rt) 66 [.tmp 4] (.loop (sub b54 [1, 1, 0, 1, 0, 1, 1, 1, 1, 1, 1, 1, 0, 0, 1, 0, 0])) [.blk 1, .seq (sub b54 [1, 1, 0, 1, 0, 1, 1, 1, 1, 1, 1, 1, 0, 1]), .blk 0, .seq (sub b54 [1, 1, 1])] [(2, t2), (3, t3), (5, t5)] s QR
def P54_4 (n0 ro rt : Nat) (s : Sto) (QR : AV → Sto → Prop) : Prop := Wp env (LFE env 54 n0 ro rt) 66 [.tmp 4] (sub b54 [1, 1, 1]) [] [] s QR
def P54_5 (n0 ro rt : Nat) (t2 t3 t5 : AV) (s : Sto) (QR : AV → Sto → Prop) : Prop := Wp env (LFE env 54 n0 ro rt) 66 [.tmp 4] (sub b54 [1, 1, 0, 1, 0, 1, 1, 1, 1, 1, 1, 1, 0, 0, 1, 0, 0, 1]) [.loop (sub b54 [1, 1, 0, 1, 0, 1, 1, 1, 1, 1, 1, 1, 0, 0, 1, 0, 0]), .blk 1, .seq (sub b54 [1, 1, 0, 1, 0, 1, 1, 1, 1, 1, 1, 1, 0, 1]), .blk 0, .seq (sub b54 [1, 1, 1])] [(2, t2), (3, t3), (5, t5)] s QR
def P54_6 (n0 ro rt : Nat) (t2 t3 : AV) (s : Sto) (QR : AV → Sto → Prop) : Prop := Wp env (LFE env 54 n0 ro rt) 66 [.tmp 4] (sub b54 [1, 1, 0, 1, 0, 1, 1, 1, 1, 1, 1, 1, 0, 1]) [.blk 0, .seq (sub b54 [1, 1, 1])] [(2, t2), (3, t3)] s QR
def P54_7 (n0 ro rt : Nat) (t2 t3 t5 : AV) (s : Sto) (QR : AV → Sto → Prop) : Prop := Wp env (LFE env 54 n0 ro rt) 66 [.tmp 4] (sub b54 [1, 1, 0, 1, 0, 1, 1, 1, 1, 1, 1, 1, 0, 0, 1, 0, 0, 1, 1]) [.loop (sub b54 [1, 1, 0, 1, 0, 1, 1, 1, 1, 1, 1, 1, 0, 0, 1, 0, 0]), .blk 1, .seq (sub b54 [1, 1, 0, 1, 0, 1, 1, 1, 1, 1, 1, 1, 0, 1]), .blk 0, .seq (sub b54 [1, 1, 1])] [(2, t2), (3, t3), (5, t5)] s QR

theorem p54_0 {n0 ro rt : Nat} {t0 t1 : AV} {s : Sto} {QR : AV → Sto → Prop} (h :
 wBox s t0 fun a2 s1x0 =>
 wBox s1x0 t1 fun a3 s1x1 =>
 wFad s1x1 a2 0 fun a6 =>
 wLd env s1x1 none a6 fun a7 =>
 wFad s1x1 a3 0 fun a8 =>
 wLd env s1x1 none a8 fun a9 =>
 wInt .i64 .neq a7 a9 fun a10 =>
 wCond a10 (
 QR (BB false) s1x1) (
 P54_1 n0 ro rt a2 a3 s1x1 QR)) : P54_0 n0 ro rt t0 t1 s QR :=
  wpc_mp (E := env) (L := LFE env 54 n0 ro rt) (N := 66) (lv := lv54) (ct := ct54) (rs := [.tmp 4]) (QR := QR) (sub b54 []) [] [(0, t0), (1, t1)] s h (by kernel_rfl)

theorem p54_1 {n0 ro rt : Nat} {t2 t3 : AV} {s : Sto} {QR : AV → Sto → Prop} (h :
 wFad s t2 0 fun a11 =>
 wLd env s none a11 fun a12 =>
 wInt .i64 .eql a12 (I64 0) fun a14 =>
 wCond a14 (
 QR (BB true) s) (
 wInt .i64 .eql a12 (I64 1) fun a16 =>
 wCond a16 (
 P54_2 n0 ro rt t2 t3 a12 a16 s QR) (
 wInt .i64 .eql a12 (I64 2) fun a17 =>
 wCond a17 (
 P54_2 n0 ro rt t2 t3 a12 a17 s QR) (
 wInt .i64 .eql a12 (I64 5) fun a18 =>
 P54_2 n0 ro rt t2 t3 a12 a18 s QR)))) : P54_1 n0 ro rt t2 t3 s QR :=
  wpc_mp (E := env) (L := LFE env 54 n0 ro rt) (N := 66) (lv := lv54) (ct := ct54) (rs := [.tmp 4]) (QR := QR) (sub b54 [1, 1]) [] [(2, t2), (3, t3)] s h (by kernel_rfl)

theorem p54_2 {n0 ro rt : Nat} {t2 t3 t12 t15 : AV} {s : Sto} {QR : AV → Sto → Prop} (h :
 wCond t15 (
 wFad s t2 1 fun a19 =>
 wLd env s none a19 fun a20 =>
 wFad s t3 1 fun a21 =>
 wLd env s none a21 fun a22 =>
 wInt .i64 .eql a20 a22 fun a23 =>
 QR a23 s) (
 wInt .i64 .eql t12 (I64 3) fun a25 =>
 wCond a25 (
 wFad s t2 2 fun a26 =>
 wLd env s none a26 fun a27 =>
 wFad s t3 2 fun a28 =>
 wLd env s none a28 fun a29 =>
 wStr .eql a27 a29 fun a30 =>
 QR a30 s) (
 wInt .i64 .eql t12 (I64 4) fun a32 =>
 wCond a32 (
 P54_3 n0 ro rt t2 t3 (I64 0) s QR) (
 P54_4 n0 ro rt  s QR)))) : P54_2 n0 ro rt t2 t3 t12 t15 s QR :=
  wpc_mp (E := env) (L := LFE env 54 n0 ro rt) (N := 66) (lv := lv54) (ct := ct54) (rs := [.tmp 4]) (QR := QR) (sub b54 [1, 1, 0, 1, 0, 1, 1, 1]) [.blk 0, .seq (sub b54 [1, 1, 1])] [(2, t2), (3, t3), (12, t12), (15, t15)] s h (by kernel_rfl)

theorem p54_3 {n0 ro rt : Nat} {t2 t3 t5 : AV} {s : Sto} {QR : AV → Sto → Prop} (h :
 wFad s t2 3 fun a34 =>
 wLd env s none a34 fun a35 =>
 wLen s a35 fun a36 =>
 wInt .i64 .lss t5 a36 fun a37 =>
 wGK a37 true s (fun K => K t5 s) fun a39 s1x0 =>
 wGK a37 true s1x0 (fun K => wFad s1x0 t3 3 fun a40 => K a40 s1x0) fun a40x1 s1x2 =>
 wGK a37 true s1x2 (fun K => wLd env s1x2 none a40x1 fun a41 => K a41 s1x2) fun a41x3 s1x4 =>
 wGK a37 true s1x4 (fun K => wLen s1x4 a41x3 fun a42 => K a42 s1x4) fun a42x5 s1x6 =>
 wGK a37 true s1x6 (fun K => wInt .i64 .lss a39 a42x5 fun a43 => K a43 s1x6) fun a43x7 s1x8 =>
 wPick a37 a43x7 (BB false) fun a44 =>
 wCond a44 (
 P54_5 n0 ro rt t2 t3 t5 s1x8 QR) (
 P54_6 n0 ro rt t2 t3 s1x8 QR)) : P54_3 n0 ro rt t2 t3 t5 s QR :=
  wpl_mp (E := env) (L := LFE env 54 n0 ro rt) (N := 66) (lv := lv54) (ct := ct54) (rs := [.tmp 4]) (QR := QR) (sub b54 [1, 1, 0, 1, 0, 1, 1, 1, 1, 1, 1, 1, 0, 0, 1, 0, 0]) [.blk 1, .seq (sub b54 [1, 1, 0, 1, 0, 1, 1, 1, 1, 1, 1, 1, 0, 1]), .blk 0, .seq (sub b54 [1, 1, 1])] [(2, t2), (3, t3), (5, t5)] s h (by kernel_rfl)

theorem p54_4 {n0 ro rt : Nat} {s : Sto} {QR : AV → Sto → Prop} (h :
 QR (BB false) s) : P54_4 n0 ro rt  s QR :=
  wpc_mp (E := env) (L := LFE env 54 n0 ro rt) (N := 66) (lv := lv54) (ct := ct54) (rs := [.tmp 4]) (QR := QR) (sub b54 [1, 1, 1]) [] [] s h (by kernel_rfl)

theorem p54_5 {n0 ro rt : Nat} {t2 t3 t5 : AV} {s : Sto} {QR : AV → Sto → Prop} (h :
 wFad s t2 3 fun a47 =>
 wLd env s none a47 fun a48 =>
 wIdx s 4 a48 t5 fun a50 =>
 wLd env s (some 4) a50 fun a51 =>
 wFad s t3 3 fun a52 =>
 wLd env s none a52 fun a53 =>
 wIdx s 4 a53 t5 fun a55 =>
 wLd env s (some 4) a55 fun a56 =>
 wCall env (LFE env 54 n0 ro rt) (.func (.func 54) [] []) [a51, a56] s fun a57 s1x0 =>
 wNot a57 fun a58 =>
 wCond a58 (
 QR (BB false) s1x0) (
 P54_7 n0 ro rt t2 t3 t5 s1x0 QR)) : P54_5 n0 ro rt t2 t3 t5 s QR :=
  wpc_mp (E := env) (L := LFE env 54 n0 ro rt) (N := 66) (lv := lv54) (ct := ct54) (rs := [.tmp 4]) (QR := QR) (sub b54 [1, 1, 0, 1, 0, 1, 1, 1, 1, 1, 1, 1, 0, 0, 1, 0, 0, 1]) [.loop (sub b54 [1, 1, 0, 1, 0, 1, 1, 1, 1, 1, 1, 1, 0, 0, 1, 0, 0]), .blk 1, .seq (sub b54 [1, 1, 0, 1, 0, 1, 1, 1, 1, 1, 1, 1, 0, 1]), .blk 0, .seq (sub b54 [1, 1, 1])] [(2, t2), (3, t3), (5, t5)] s h (by kernel_rfl)

theorem p54_6 {n0 ro rt : Nat} {t2 t3 : AV} {s : Sto} {QR : AV → Sto → Prop} (h :
 wFad s t2 3 fun a59 =>
 wLd env s none a59 fun a60 =>
 wLen s a60 fun a61 =>
 wFad s t3 3 fun a62 =>
 wLd env s none a62 fun a63 =>
 wLen s a63 fun a64 =>
 wInt .i64 .eql a61 a64 fun a65 =>
 QR a65 s) : P54_6 n0 ro rt t2 t3 s QR :=
  wpc_mp (E := env) (L := LFE env 54 n0 ro rt) (N := 66) (lv := lv54) (ct := ct54) (rs := [.tmp 4]) (QR := QR) (sub b54 [1, 1, 0, 1, 0, 1, 1, 1, 1, 1, 1, 1, 0, 1]) [.blk 0, .seq (sub b54 [1, 1, 1])] [(2, t2), (3, t3)] s h (by kernel_rfl)

theorem p54_7 {n0 ro rt : Nat} {t2 t3 t5 : AV} {s : Sto} {QR : AV → Sto → Prop} (h :
 wInt .i64 .add t5 (I64 1) fun a46 =>
 P54_3 n0 ro rt t2 t3 a46 s QR) : P54_7 n0 ro rt t2 t3 t5 s QR :=
  wpc_mp (E := env) (L := LFE env 54 n0 ro rt) (N := 66) (lv := lv54) (ct := ct54) (rs := [.tmp 4]) (QR := QR) (sub b54 [1, 1, 0, 1, 0, 1, 1, 1, 1, 1, 1, 1, 0, 0, 1, 0, 0, 1, 1]) [.loop (sub b54 [1, 1, 0, 1, 0, 1, 1, 1, 1, 1, 1, 1, 0, 0, 1, 0, 0]), .blk 1, .seq (sub b54 [1, 1, 0, 1, 0, 1, 1, 1, 1, 1, 1, 1, 0, 1]), .blk 0, .seq (sub b54 [1, 1, 1])] [(2, t2), (3, t3), (5, t5)] s h (by kernel_rfl)

theorem e54 {t0 t1 : AV} {u0 u1 : AV} {Post : AV → Prop} (hcl : closeL [] 0 0 [t0, t1] = some [u0, u1]) (h : P54_0 0 0 0 u0 u1 ⟨[], []⟩ (QP Post)) : PureC env 54 [t0, t1] Post :=
  call_rd (fn := Tryz.f54) (body := b54) Tryz.func54 (by kernel_rfl) (by kernel_rfl) (by kernel_rfl) (Nat.le_of_ble_eq_true (by kernel_rfl)) hcl (mpK h (by kernel_rfl))

theorem i54 {t0 t1 : AV} {s : Sto} {Post : AV → Prop} (hcl : closeL [] 0 0 [t0, t1] = none) (h : P54_0 s.bs.length s.bs.length s.ts.length t0 t1 s (QI s.bs.length s.ts.length Post)) : ∃ v, Post v ∧ ∀ L, CallE env L 54 [t0, t1] s v s :=
  call_rdI (fn := Tryz.f54) (body := b54) Tryz.func54 (by kernel_rfl) (by kernel_rfl) (by kernel_rfl) (Nat.le_of_ble_eq_true (by kernel_rfl)) hcl (mpK h (by kernel_rfl))

/-! 56: (*telpher/telmake.Stream).Raw -/
noncomputable def b56 : Code := Tryz.f56.body.getD .skip
def lv56 (f : Nat) : List Nat := bif Nat.blt f 3 then (
 bif Nat.blt f 2 then (
  bif Nat.beq f 1 then [0] else []) else (
  bif Nat.beq f 2 then [0, 12] else [])) else (
 bif Nat.blt f 4 then (
  bif Nat.beq f 3 then [0] else []) else (
  bif Nat.beq f 4 then [0] else []))
def ct56 (f : Nat) : Bool := false
def P56_0 (n0 ro rt : Nat) (t0 : AV) (s : Sto) (QR : AV → Sto → Prop) : Prop := Wp env (LFE env 56 n0 ro rt) 31 [.tmp 2] (sub b56 []) [] [(0, t0)] s QR
def P56_1 (n0 ro rt : Nat) (t0 : AV) (s : Sto) (QR : AV → Sto → Prop) : Prop := Wp env (LFE env 56 n0 ro rt) 31 [.tmp 2] (sub b56 [1, 1]) [] [(0, t0)] s QR

theorem p56_0 {n0 ro rt : Nat} {t0 : AV} {s : Sto} {QR : AV → Sto → Prop} (h :
 wNil s t0 fun a4 =>
 wFad s a4 1 fun a5 =>
 wLd env s none a5 fun a6 =>
 wNil s t0 fun a8 =>
 wFad s a8 0 fun a9 =>
 wLd env s none a9 fun a10 =>
 wLen s a10 fun a11 =>
 wInt .i64 .geq a6 a11 fun a12 =>
 wCond a12 (
 QR (I64 0) s) (
 P56_1 n0 ro rt t0 s QR)) : P56_0 n0 ro rt t0 s QR :=
  wpc_mp (E := env) (L := LFE env 56 n0 ro rt) (N := 31) (lv := lv56) (ct := ct56) (rs := [.tmp 2]) (QR := QR) (sub b56 []) [] [(0, t0)] s h (by kernel_rfl)

theorem p56_1 {n0 ro rt : Nat} {t0 : AV} {s : Sto} {QR : AV → Sto → Prop} (h :
 wNil s t0 fun a14 =>
 wFad s a14 1 fun a15 =>
 wLd env s none a15 fun a16 =>
 wInt .i64 .add a16 (I64 1) fun a17 =>
 wNil s t0 fun a18 =>
 wFad s a18 1 fun a19 =>
 wSt (LFE env 56 n0 ro rt) s 1 a19 a17 fun s1x0 =>
 wNil s1x0 t0 fun a21 =>
 wFad s1x0 a21 0 fun a22 =>
 wLd env s1x0 none a22 fun a23 =>
 wNil s1x0 t0 fun a25 =>
 wFad s1x0 a25 1 fun a26 =>
 wLd env s1x0 none a26 fun a27 =>
 wInt .i64 .sub a27 (I64 1) fun a28 =>
 wIdx s1x0 1 a23 a28 fun a29 =>
 wLd env s1x0 none a29 fun a30 =>
 QR a30 s1x0) : P56_1 n0 ro rt t0 s QR :=
  wpc_mp (E := env) (L := LFE env 56 n0 ro rt) (N := 31) (lv := lv56) (ct := ct56) (rs := [.tmp 2]) (QR := QR) (sub b56 [1, 1]) [] [(0, t0)] s h (by kernel_rfl)

theorem e56 {t0 : AV} {Post : AV → Prop} (hn : noIdL [t0] = true) (h : P56_0 0 0 0 t0 ⟨[], []⟩ (QP Post)) : PureC env 56 [t0] Post :=
  call_imp (fn := Tryz.f56) (body := b56) Tryz.func56 (by kernel_rfl) (by kernel_rfl) (by kernel_rfl) (Nat.le_of_ble_eq_true (by kernel_rfl)) hn (mpK h (by kernel_rfl))

theorem m56 {t0 : AV} {L : Lim} {s : Sto} {Post : AV → Sto → Prop} (hn : noIdL [t0] = false) (h : P56_0 0 L.ro L.rt t0 s (QM (L.rr 56) s.bs.length Post)) : ∃ v s', Post v s' ∧ CallE env L 56 [t0] s v s' :=
  call_im (fn := Tryz.f56) (body := b56) Tryz.func56 (by kernel_rfl) (by kernel_rfl) (by kernel_rfl) (Nat.le_of_ble_eq_true (by kernel_rfl)) hn (mpK h (by kernel_rfl))

/-! 57: telpher/value.operations -/
noncomputable def b57 : Code := Tryz.f57.body.getD .skip
def lv57 (f : Nat) : List Nat := bif Nat.beq f 1 then [] else []
def ct57 (f : Nat) : Bool := false
def P57_0 (n0 ro rt : Nat) (s : Sto) (QR : AV → Sto → Prop) : Prop := Wp env (LFE env 57 n0 ro rt) 8 [.tmp 0] (sub b57 []) [] [] s QR

theorem p57_0 {n0 ro rt : Nat} {s : Sto} {QR : AV → Sto → Prop} (h :
 wMk s fun a1 s1x0 =>
 wBuild [(I64 0), (.pv (.sc .nilFunc))] [(0, 1, (I64 1)), (1, 1, (.func (.func 119) [] []))] fun a2 =>
 wIns1 (LFE env 57 n0 ro rt) s1x0 (.int .i64) a1 (I64 1) a2 fun s1x1 =>
 wBuild [(I64 0), (.pv (.sc .nilFunc))] [(0, 1, (I64 1)), (1, 1, (.func (.func 121) [] []))] fun a3 =>
 wIns1 (LFE env 57 n0 ro rt) s1x1 (.int .i64) a1 (I64 2) a3 fun s1x2 =>
 wBuild [(I64 0), (.pv (.sc .nilFunc))] [(0, 1, (I64 1)), (1, 1, (.func (.func 122) [] []))] fun a4 =>
 wIns1 (LFE env 57 n0 ro rt) s1x2 (.int .i64) a1 (I64 3) a4 fun s1x3 =>
 wBuild [(I64 0), (.pv (.sc .nilFunc))] [(0, 1, (I64 1)), (1, 1, (.func (.func 123) [] []))] fun a5 =>
 wIns1 (LFE env 57 n0 ro rt) s1x3 (.int .i64) a1 (I64 4) a5 fun s1x4 =>
 wBuild [(I64 0), (.pv (.sc .nilFunc))] [(0, 1, (I64 3)), (1, 1, (.func (.func 124) [] []))] fun a6 =>
 wIns1 (LFE env 57 n0 ro rt) s1x4 (.int .i64) a1 (I64 6) a6 fun s1x5 =>
 QR a1 s1x5) : P57_0 n0 ro rt  s QR :=
  wpc_mp (E := env) (L := LFE env 57 n0 ro rt) (N := 8) (lv := lv57) (ct := ct57) (rs := [.tmp 0]) (QR := QR) (sub b57 []) [] [] s h (by kernel_rfl)

theorem m57 {L : Lim} {s : Sto} {Post : AV → Sto → Prop} (h : P57_0 L.n0 L.ro L.rt  s Post) : ∃ v s', Post v s' ∧ CallE env L 57 [] s v s' :=
  call_esc (fn := Tryz.f57) (body := b57) Tryz.func57 (by kernel_rfl) (by kernel_rfl) (by kernel_rfl) (Nat.le_of_ble_eq_true (by kernel_rfl)) (mpK h (by kernel_rfl))

/-! 58: telpher/value.boolValue -/
noncomputable def b58 : Code := Tryz.f58.body.getD .skip
def lv58 (f : Nat) : List Nat := bif Nat.blt f 2 then (
 bif Nat.beq f 1 then [0, 2] else []) else (
 bif Nat.blt f 3 then (
  bif Nat.beq f 2 then [2, 3] else []) else (
  bif Nat.beq f 3 then [2] else []))
def ct58 (f : Nat) : Bool := false
def P58_0 (n0 ro rt : Nat) (t0 : AV) (s : Sto) (QR : AV → Sto → Prop) : Prop := Wp env (LFE env 58 n0 ro rt) 6 [.cell 2 27] (sub b58 []) [] [(0, t0)] s QR
def P58_1 (n0 ro rt : Nat) (t2 : AV) (s : Sto) (QR : AV → Sto → Prop) : Prop := Wp env (LFE env 58 n0 ro rt) 6 [.cell 2 27] (sub b58 [1, 1]) [] [(2, t2)] s QR

theorem p58_0 {n0 ro rt : Nat} {t0 : AV} {s : Sto} {QR : AV → Sto → Prop} (h :
 wNew s [(I64 0), (I64 0), (SS []), (.capped [])] fun a2 s1x0 =>
 wCond t0 (
 wBuild [(I64 0), (I64 0), (SS []), (.capped [])] [(0, 1, (I64 2)), (1, 1, (I64 1))] fun a4 =>
 wSt (LFE env 58 n0 ro rt) s1x0 4 a2 a4 fun s1x1 =>
 wLd env s1x1 (some 4) a2 fun r =>
 QR r s1x1) (
 P58_1 n0 ro rt a2 s1x0 QR)) : P58_0 n0 ro rt t0 s QR :=
  wpc_mp (E := env) (L := LFE env 58 n0 ro rt) (N := 6) (lv := lv58) (ct := ct58) (rs := [.cell 2 27]) (QR := QR) (sub b58 []) [] [(0, t0)] s h (by kernel_rfl)

theorem p58_1 {n0 ro rt : Nat} {t2 : AV} {s : Sto} {QR : AV → Sto → Prop} (h :
 wBuild [(I64 0), (I64 0), (SS []), (.capped [])] [(0, 1, (I64 2))] fun a5 =>
 wSt (LFE env 58 n0 ro rt) s 4 t2 a5 fun s1x0 =>
 wLd env s1x0 (some 4) t2 fun r =>
 QR r s1x0) : P58_1 n0 ro rt t2 s QR :=
  wpc_mp (E := env) (L := LFE env 58 n0 ro rt) (N := 6) (lv := lv58) (ct := ct58) (rs := [.cell 2 27]) (QR := QR) (sub b58 [1, 1]) [] [(2, t2)] s h (by kernel_rfl)

theorem e58 {t0 : AV} {u0 : AV} {Post : AV → Prop} (hcl : closeL [] 0 0 [t0] = some [u0]) (h : P58_0 0 0 0 u0 ⟨[], []⟩ (QP Post)) : PureC env 58 [t0] Post :=
  call_rd (fn := Tryz.f58) (body := b58) Tryz.func58 (by kernel_rfl) (by kernel_rfl) (by kernel_rfl) (Nat.le_of_ble_eq_true (by kernel_rfl)) hcl (mpK h (by kernel_rfl))

theorem i58 {t0 : AV} {s : Sto} {Post : AV → Prop} (hcl : closeL [] 0 0 [t0] = none) (h : P58_0 s.bs.length s.bs.length s.ts.length t0 s (QI s.bs.length s.ts.length Post)) : ∃ v, Post v ∧ ∀ L, CallE env L 58 [t0] s v s :=
  call_rdI (fn := Tryz.f58) (body := b58) Tryz.func58 (by kernel_rfl) (by kernel_rfl) (by kernel_rfl) (Nat.le_of_ble_eq_true (by kernel_rfl)) hcl (mpK h (by kernel_rfl))

/-! 59: telpher/telref17.Int -/
noncomputable def b59 : Code := Tryz.f59.body.getD .skip
def lv59 (f : Nat) : List Nat := bif Nat.beq f 1 then [0, 2] else []
def ct59 (f : Nat) : Bool := false
def P59_0 (n0 ro rt : Nat) (t0 : AV) (s : Sto) (QR : AV → Sto → Prop) : Prop := Wp env (LFE env 59 n0 ro rt) 5 [.cell 2 27] (sub b59 []) [] [(0, t0)] s QR

theorem p59_0 {n0 ro rt : Nat} {t0 : AV} {s : Sto} {QR : AV → Sto → Prop} (h :
 wNew s [(I64 0), (I64 0), (SS []), (.capped [])] fun a2 s1x0 =>
 wBuild [(I64 0), (I64 0), (SS []), (.capped [])] [(0, 1, (I64 1)), (1, 1, t0)] fun a4 =>
 wSt (LFE env 59 n0 ro rt) s1x0 4 a2 a4 fun s1x1 =>
 wLd env s1x1 (some 4) a2 fun r =>
 QR r s1x1) : P59_0 n0 ro rt t0 s QR :=
  wpc_mp (E := env) (L := LFE env 59 n0 ro rt) (N := 5) (lv := lv59) (ct := ct59) (rs := [.cell 2 27]) (QR := QR) (sub b59 []) [] [(0, t0)] s h (by kernel_rfl)

theorem e59 {t0 : AV} {u0 : AV} {Post : AV → Prop} (hcl : closeL [] 0 0 [t0] = some [u0]) (h : P59_0 0 0 0 u0 ⟨[], []⟩ (QP Post)) : PureC env 59 [t0] Post :=
  call_rd (fn := Tryz.f59) (body := b59) Tryz.func59 (by kernel_rfl) (by kernel_rfl) (by kernel_rfl) (Nat.le_of_ble_eq_true (by kernel_rfl)) hcl (mpK h (by kernel_rfl))

theorem i59 {t0 : AV} {s : Sto} {Post : AV → Prop} (hcl : closeL [] 0 0 [t0] = none) (h : P59_0 s.bs.length s.bs.length s.ts.length t0 s (QI s.bs.length s.ts.length Post)) : ∃ v, Post v ∧ ∀ L, CallE env L 59 [t0] s v s :=
  call_rdI (fn := Tryz.f59) (body := b59) Tryz.func59 (by kernel_rfl) (by kernel_rfl) (by kernel_rfl) (Nat.le_of_ble_eq_true (by kernel_rfl)) hcl (mpK h (by kernel_rfl))

/-! 60: telpher/telref17.Bool -/
noncomputable def b60 : Code := Tryz.f60.body.getD .skip
def lv60 (f : Nat) : List Nat := bif Nat.blt f 2 then (
 bif Nat.beq f 1 then [0, 2] else []) else (
 bif Nat.blt f 3 then (
  bif Nat.beq f 2 then [2, 3] else []) else (
  bif Nat.beq f 3 then [2] else []))
def ct60 (f : Nat) : Bool := false
def P60_0 (n0 ro rt : Nat) (t0 : AV) (s : Sto) (QR : AV → Sto → Prop) : Prop := Wp env (LFE env 60 n0 ro rt) 6 [.cell 2 27] (sub b60 []) [] [(0, t0)] s QR
def P60_1 (n0 ro rt : Nat) (t2 : AV) (s : Sto) (QR : AV → Sto → Prop) : Prop := Wp env (LFE env 60 n0 ro rt) 6 [.cell 2 27] (sub b60 [1, 1]) [] [(2, t2)] s QR

theorem p60_0 {n0 ro rt : Nat} {t0 : AV} {s : Sto} {QR : AV → Sto → Prop} (h :
 wNew s [(I64 0), (I64 0), (SS []), (.capped [])] fun a2 s1x0 =>
 wCond t0 (
 wBuild [(I64 0), (I64 0), (SS []), (.capped [])] [(0, 1, (I64 2)), (1, 1, (I64 1))] fun a4 =>
 wSt (LFE env 60 n0 ro rt) s1x0 4 a2 a4 fun s1x1 =>
 wLd env s1x1 (some 4) a2 fun r =>
 QR r s1x1) (
 P60_1 n0 ro rt a2 s1x0 QR)) : P60_0 n0 ro rt t0 s QR :=
  wpc_mp (E := env) (L := LFE env 60 n0 ro rt) (N := 6) (lv := lv60) (ct := ct60) (rs := [.cell 2 27]) (QR := QR) (sub b60 []) [] [(0, t0)] s h (by kernel_rfl)

theorem p60_1 {n0 ro rt : Nat} {t2 : AV} {s : Sto} {QR : AV → Sto → Prop} (h :
 wBuild [(I64 0), (I64 0), (SS []), (.capped [])] [(0, 1, (I64 2))] fun a5 =>
 wSt (LFE env 60 n0 ro rt) s 4 t2 a5 fun s1x0 =>
 wLd env s1x0 (some 4) t2 fun r =>
 QR r s1x0) : P60_1 n0 ro rt t2 s QR :=
  wpc_mp (E := env) (L := LFE env 60 n0 ro rt) (N := 6) (lv := lv60) (ct := ct60) (rs := [.cell 2 27]) (QR := QR) (sub b60 [1, 1]) [] [(2, t2)] s h (by kernel_rfl)

theorem e60 {t0 : AV} {u0 : AV} {Post : AV → Prop} (hcl : closeL [] 0 0 [t0] = some [u0]) (h : P60_0 0 0 0 u0 ⟨[], []⟩ (QP Post)) : PureC env 60 [t0] Post :=
  call_rd (fn := Tryz.f60) (body := b60) Tryz.func60 (by kernel_rfl) (by kernel_rfl) (by kernel_rfl) (Nat.le_of_ble_eq_true (by kernel_rfl)) hcl (mpK h (by kernel_rfl))

theorem i60 {t0 : AV} {s : Sto} {Post : AV → Prop} (hcl : closeL [] 0 0 [t0] = none) (h : P60_0 s.bs.length s.bs.length s.ts.length t0 s (QI s.bs.length s.ts.length Post)) : ∃ v, Post v ∧ ∀ L, CallE env L 60 [t0] s v s :=
  call_rdI (fn := Tryz.f60) (body := b60) Tryz.func60 (by kernel_rfl) (by kernel_rfl) (by kernel_rfl) (Nat.le_of_ble_eq_true (by kernel_rfl)) hcl (mpK h (by kernel_rfl))

/-! 61: telpher/telref17.isBool -/
noncomputable def b61 : Code := Tryz.f61.body.getD .skip
def lv61 (f : Nat) : List Nat := bif Nat.beq f 1 then [1] else []
def ct61 (f : Nat) : Bool := false
def P61_0 (n0 ro rt : Nat) (t0 : AV) (s : Sto) (QR : AV → Sto → Prop) : Prop := Wp env (LFE env 61 n0 ro rt) 16 [.tmp 2] (sub b61 []) [] [(0, t0)] s QR

theorem p61_0 {n0 ro rt : Nat} {t0 : AV} {s : Sto} {QR : AV → Sto → Prop} (h :
 wBox s t0 fun a1 s1x0 =>
 wFad s1x0 a1 0 fun a3 =>
 wLd env s1x0 none a3 fun a4 =>
 wInt .i64 .eql a4 (I64 2) fun a5 =>
 wGK a5 true s1x0 (fun K => wFad s1x0 a1 1 fun a7 => K a7 s1x0) fun a7x1 s1x2 =>
 wGK a5 true s1x2 (fun K => wLd env s1x2 none a7x1 fun a8 => K a8 s1x2) fun a8x3 s1x4 =>
 wGK a5 true s1x4 (fun K => wInt .i64 .eql a8x3 (I64 0) fun a9 => K a9 s1x4) fun a9x5 s1x6 =>
 wGK a5 true s1x6 (fun K => K a9x5 s1x6) fun a10 s1x7 =>
 wGK a10 false s1x7 (fun K => wFad s1x7 a1 1 fun a11 => K a11 s1x7) fun a11x8 s1x9 =>
 wGK a10 false s1x9 (fun K => wLd env s1x9 none a11x8 fun a12 => K a12 s1x9) fun a12x10 s1x11 =>
 wGK a10 false s1x11 (fun K => wInt .i64 .eql a12x10 (I64 1) fun a13 => K a13 s1x11) fun a13x12 s1x13 =>
 wGK a5 true s1x13 (fun K => wPick a10 (BB true) a13x12 fun a14 => K a14 s1x13) fun a14x14 s1x15 =>
 wPick a5 a14x14 (BB false) fun a15 =>
 QR a15 s1x15) : P61_0 n0 ro rt t0 s QR :=
  wpc_mp (E := env) (L := LFE env 61 n0 ro rt) (N := 16) (lv := lv61) (ct := ct61) (rs := [.tmp 2]) (QR := QR) (sub b61 []) [] [(0, t0)] s h (by kernel_rfl)

theorem e61 {t0 : AV} {u0 : AV} {Post : AV → Prop} (hcl : closeL [] 0 0 [t0] = some [u0]) (h : P61_0 0 0 0 u0 ⟨[], []⟩ (QP Post)) : PureC env 61 [t0] Post :=
  call_rd (fn := Tryz.f61) (body := b61) Tryz.func61 (by kernel_rfl) (by kernel_rfl) (by kernel_rfl) (Nat.le_of_ble_eq_true (by kernel_rfl)) hcl (mpK h (by kernel_rfl))

theorem i61 {t0 : AV} {s : Sto} {Post : AV → Prop} (hcl : closeL [] 0 0 [t0] = none) (h : P61_0 s.bs.length s.bs.length s.ts.length t0 s (QI s.bs.length s.ts.length Post)) : ∃ v, Post v ∧ ∀ L, CallE env L 61 [t0] s v s :=
  call_rdI (fn := Tryz.f61) (body := b61) Tryz.func61 (by kernel_rfl) (by kernel_rfl) (by kernel_rfl) (Nat.le_of_ble_eq_true (by kernel_rfl)) hcl (mpK h (by kernel_rfl))

/-! 89: slices.EqualFunc[[]telpher/api.Value,[]telpher/api.Value,telpher/api.Value,telpher/api.Value] -/
noncomputable def b89 : Code := Tryz.f89.body.getD .skip
def lv89 (f : Nat) : List Nat := bif Nat.blt f 6 then (
 bif Nat.blt f 3 then (
  bif Nat.blt f 2 then (
   bif Nat.beq f 1 then [0, 1, 2] else []) else (
   bif Nat.beq f 2 then [0, 1, 2, 14] else [])) else (
  bif Nat.blt f 4 then (
   bif Nat.beq f 3 then [0, 1, 2] else []) else (
   bif Nat.blt f 5 then (
    bif Nat.beq f 4 then [1, 2, 15, 16, 17] else []) else (
    bif Nat.beq f 5 then [1, 2, 15, 16, 17, 18] else [])))) else (
 bif Nat.blt f 8 then (
  bif Nat.blt f 7 then (
   bif Nat.beq f 6 then [1, 2, 7, 8, 15, 16, 17] else []) else (
   bif Nat.beq f 7 then [1, 2, 8, 9, 15, 16, 17] else [])) else (
  bif Nat.blt f 9 then (
   bif Nat.beq f 8 then [1, 2, 15, 16, 17, 30] else []) else (
   bif Nat.blt f 10 then (
    bif Nat.beq f 9 then [1, 2, 15, 16, 17] else []) else (
    bif Nat.beq f 10 then [] else []))))
def ct89 (f : Nat) : Bool := false
def P89_0 (n0 ro rt : Nat) (t0 t1 t2 : AV) (s : Sto) (QR : AV → Sto → Prop) : Prop := Wp env (LFE env 89 n0 ro rt) 32 [.tmp 6] (sub b89 []) [] [(0, t0), (1, t1), (2, t2)] s QR
def P89_1 (n0 ro rt : Nat) (t0 t1 t2 : AV) (s : Sto) (QR : AV → Sto → Prop) : Prop := Wp env (LFE env 89 n0 ro rt) 32 [.tmp 6] (sub b89 [1, 1]) [] [(0, t0), (1, t1), (2, t2)] s QR
def P89_2 (n0 ro rt : Nat) (t1 t2 t15 t16 t17 : AV) (s : Sto) (QR : AV → Sto → Prop) : Prop := Wp env (LFE env 89 n0 ro rt) 32 [.tmp 6] (.loop (sub b89 [1, 1, 0, 1, 0, 0])) [.blk 0, .seq (sub b89 [1, 1, 1])] [(1, t1), (2, t2), (15, t15), (16, t16), (17, t17)] s QR
def P89_3 (n0 ro rt : Nat) (t1 t2 t15 t16 t17 t18 : AV) (s : Sto) (QR : AV → Sto → Prop) : Prop := Wp env (LFE env 89 n0 ro rt) 32 [.tmp 6] (sub b89 [1, 1, 0, 1, 0, 0, 1, 1]) [.loop (sub b89 [1, 1, 0, 1, 0, 0]), .blk 0, .seq (sub b89 [1, 1, 1])] [(1, t1), (2, t2), (15, t15), (16, t16), (17, t17), (18, t18)] s QR
def P89_4 (n0 ro rt : Nat) (s : Sto) (QR : AV → Sto → Prop) : Prop := Wp env (LFE env 89 n0 ro rt) 32 [.tmp 6] (sub b89 [1, 1, 1]) [] [] s QR
def P89_5 (n0 ro rt : Nat) (t1 t2 t15 t16 t17 : AV) (s : Sto) (QR : AV → Sto → Prop) : Prop := Wp env (LFE env 89 n0 ro rt) 32 [.tmp 6] (sub b89 [1, 1, 0, 1, 0, 0, 1, 1, 1]) [.loop (sub b89 [1, 1, 0, 1, 0, 0]), .blk 0, .seq (sub b89 [1, 1, 1])] [(1, t1), (2, t2), (15, t15), (16, t16), (17, t17)] s QR

theorem p89_0 {n0 ro rt : Nat} {t0 t1 t2 : AV} {s : Sto} {QR : AV → Sto → Prop} (h :
 wLen s t0 fun a11 =>
 wLen s t1 fun a13 =>
 wInt .i64 .neq a11 a13 fun a14 =>
 wCond a14 (
 QR (BB false) s) (
 P89_1 n0 ro rt t0 t1 t2 s QR)) : P89_0 n0 ro rt t0 t1 t2 s QR :=
  wpc_mp (E := env) (L := LFE env 89 n0 ro rt) (N := 32) (lv := lv89) (ct := ct89) (rs := [.tmp 6]) (QR := QR) (sub b89 []) [] [(0, t0), (1, t1), (2, t2)] s h (by kernel_rfl)

theorem p89_1 {n0 ro rt : Nat} {t0 t1 t2 : AV} {s : Sto} {QR : AV → Sto → Prop} (h :
 wLen s t0 fun a16 =>
 P89_2 n0 ro rt t1 t2 t0 a16 (I64 0) s QR) : P89_1 n0 ro rt t0 t1 t2 s QR :=
  wpc_mp (E := env) (L := LFE env 89 n0 ro rt) (N := 32) (lv := lv89) (ct := ct89) (rs := [.tmp 6]) (QR := QR) (sub b89 [1, 1]) [] [(0, t0), (1, t1), (2, t2)] s h (by kernel_rfl)

theorem p89_2 {n0 ro rt : Nat} {t1 t2 t15 t16 t17 : AV} {s : Sto} {QR : AV → Sto → Prop} (h :
 wInt .i64 .lss t17 t16 fun a18 =>
 wCond a18 (
 P89_3 n0 ro rt t1 t2 t15 t16 t17 a18 s QR) (
 P89_4 n0 ro rt  s QR)) : P89_2 n0 ro rt t1 t2 t15 t16 t17 s QR :=
  wpl_mp (E := env) (L := LFE env 89 n0 ro rt) (N := 32) (lv := lv89) (ct := ct89) (rs := [.tmp 6]) (QR := QR) (sub b89 [1, 1, 0, 1, 0, 0]) [.blk 0, .seq (sub b89 [1, 1, 1])] [(1, t1), (2, t2), (15, t15), (16, t16), (17, t17)] s h (by kernel_rfl)

theorem p89_3 {n0 ro rt : Nat} {t1 t2 t15 t16 t17 t18 : AV} {s : Sto} {QR : AV → Sto → Prop} (h :
 wIdx s 4 t15 t17 fun a20 =>
 wLd env s (some 4) a20 fun a21 =>
 wNew s [(I64 0), (I64 0), (SS []), (.capped [])] fun a8 s1x0 =>
 wSt (LFE env 89 n0 ro rt) s1x0 4 a8 a21 fun s1x1 =>
 wIdx s1x1 4 t1 t17 fun a24 =>
 wLd env s1x1 (some 4) a24 fun a25 =>
 wNew s1x1 [(I64 0), (I64 0), (SS []), (.capped [])] fun a9 s1x2 =>
 wSt (LFE env 89 n0 ro rt) s1x2 4 a9 a25 fun s1x3 =>
 wLd env s1x3 (some 4) a8 fun a27 =>
 wLd env s1x3 (some 4) a9 fun a28 =>
 wCall env (LFE env 89 n0 ro rt) t2 [a27, a28] s1x3 fun a29 s1x4 =>
 wNot a29 fun a30 =>
 wCond a30 (
 QR (BB false) s1x4) (
 P89_5 n0 ro rt t1 t2 t15 t16 t17 s1x4 QR)) : P89_3 n0 ro rt t1 t2 t15 t16 t17 t18 s QR :=
  wpc_mp (E := env) (L := LFE env 89 n0 ro rt) (N := 32) (lv := lv89) (ct := ct89) (rs := [.tmp 6]) (QR := QR) (sub b89 [1, 1, 0, 1, 0, 0, 1, 1]) [.loop (sub b89 [1, 1, 0, 1, 0, 0]), .blk 0, .seq (sub b89 [1, 1, 1])] [(1, t1), (2, t2), (15, t15), (16, t16), (17, t17), (18, t18)] s h (by kernel_rfl)

theorem p89_4 {n0 ro rt : Nat} {s : Sto} {QR : AV → Sto → Prop} (h :
 QR (BB true) s) : P89_4 n0 ro rt  s QR :=
  wpc_mp (E := env) (L := LFE env 89 n0 ro rt) (N := 32) (lv := lv89) (ct := ct89) (rs := [.tmp 6]) (QR := QR) (sub b89 [1, 1, 1]) [] [] s h (by kernel_rfl)

theorem p89_5 {n0 ro rt : Nat} {t1 t2 t15 t16 t17 : AV} {s : Sto} {QR : AV → Sto → Prop} (h :
 wInt .i64 .add t17 (I64 1) fun a31 =>
 P89_2 n0 ro rt t1 t2 t15 t16 a31 s QR) : P89_5 n0 ro rt t1 t2 t15 t16 t17 s QR :=
  wpc_mp (E := env) (L := LFE env 89 n0 ro rt) (N := 32) (lv := lv89) (ct := ct89) (rs := [.tmp 6]) (QR := QR) (sub b89 [1, 1, 0, 1, 0, 0, 1, 1, 1]) [.loop (sub b89 [1, 1, 0, 1, 0, 0]), .blk 0, .seq (sub b89 [1, 1, 1])] [(1, t1), (2, t2), (15, t15), (16, t16), (17, t17)] s h (by kernel_rfl)

theorem e89 {t0 t1 t2 : AV} {Post : AV → Prop} (hn : noIdL [t0, t1, t2] = true) (h : P89_0 0 0 0 t0 t1 t2 ⟨[], []⟩ (QP Post)) : PureC env 89 [t0, t1, t2] Post :=
  call_imp (fn := Tryz.f89) (body := b89) Tryz.func89 (by kernel_rfl) (by kernel_rfl) (by kernel_rfl) (Nat.le_of_ble_eq_true (by kernel_rfl)) hn (mpK h (by kernel_rfl))

theorem m89 {t0 t1 t2 : AV} {L : Lim} {s : Sto} {Post : AV → Sto → Prop} (hn : noIdL [t0, t1, t2] = false) (h : P89_0 0 L.ro L.rt t0 t1 t2 s (QM (L.rr 89) s.bs.length Post)) : ∃ v s', Post v s' ∧ CallE env L 89 [t0, t1, t2] s v s' :=
  call_im (fn := Tryz.f89) (body := b89) Tryz.func89 (by kernel_rfl) (by kernel_rfl) (by kernel_rfl) (Nat.le_of_ble_eq_true (by kernel_rfl)) hn (mpK h (by kernel_rfl))

/-! 119: telpher/value.operations$1 -/
noncomputable def b119 : Code := Tryz.f119.body.getD .skip
def lv119 (f : Nat) : List Nat := bif Nat.beq f 1 then [2, 3, 4] else []
def ct119 (f : Nat) : Bool := false
def P119_0 (n0 ro rt : Nat) (t0 t1 : AV) (s : Sto) (QR : AV → Sto → Prop) : Prop := Wp env (LFE env 119 n0 ro rt) 11 [.cell 4 27] (sub b119 []) [] [(0, t0), (1, t1)] s QR

theorem p119_0 {n0 ro rt : Nat} {t0 t1 : AV} {s : Sto} {QR : AV → Sto → Prop} (h :
 wBox s t0 fun a2 s1x0 =>
 wBox s1x0 t1 fun a3 s1x1 =>
 wNew s1x1 [(I64 0), (I64 0), (SS []), (.capped [])] fun a4 s1x2 =>
 wFad s1x2 a2 1 fun a5 =>
 wLd env s1x2 none a5 fun a6 =>
 wFad s1x2 a3 1 fun a7 =>
 wLd env s1x2 none a7 fun a8 =>
 wInt .i64 .add a6 a8 fun a9 =>
 wCall env (LFE env 119 n0 ro rt) (.func (.func 120) [] []) [a9] s1x2 fun a10 s1x3 =>
 wSt (LFE env 119 n0 ro rt) s1x3 4 a4 a10 fun s1x4 =>
 wLd env s1x4 (some 4) a4 fun r =>
 QR r s1x4) : P119_0 n0 ro rt t0 t1 s QR :=
  wpc_mp (E := env) (L := LFE env 119 n0 ro rt) (N := 11) (lv := lv119) (ct := ct119) (rs := [.cell 4 27]) (QR := QR) (sub b119 []) [] [(0, t0), (1, t1)] s h (by kernel_rfl)

theorem e119 {t0 t1 : AV} {Post : AV → Prop} (hn : noIdL [t0, t1] = true) (h : P119_0 0 0 0 t0 t1 ⟨[], []⟩ (QP Post)) : PureC env 119 [t0, t1] Post :=
  call_imp (fn := Tryz.f119) (body := b119) Tryz.func119 (by kernel_rfl) (by kernel_rfl) (by kernel_rfl) (Nat.le_of_ble_eq_true (by kernel_rfl)) hn (mpK h (by kernel_rfl))

theorem m119 {t0 t1 : AV} {L : Lim} {s : Sto} {Post : AV → Sto → Prop} (hn : noIdL [t0, t1] = false) (h : P119_0 0 L.ro L.rt t0 t1 s (QM (L.rr 119) s.bs.length Post)) : ∃ v s', Post v s' ∧ CallE env L 119 [t0, t1] s v s' :=
  call_im (fn := Tryz.f119) (body := b119) Tryz.func119 (by kernel_rfl) (by kernel_rfl) (by kernel_rfl) (Nat.le_of_ble_eq_true (by kernel_rfl)) hn (mpK h (by kernel_rfl))

/-! 120: telpher/value.intValue -/
noncomputable def b120 : Code := Tryz.f120.body.getD .skip
def lv120 (f : Nat) : List Nat := bif Nat.beq f 1 then [0, 2] else []
def ct120 (f : Nat) : Bool := false
def P120_0 (n0 ro rt : Nat) (t0 : AV) (s : Sto) (QR : AV → Sto → Prop) : Prop := Wp env (LFE env 120 n0 ro rt) 5 [.cell 2 27] (sub b120 []) [] [(0, t0)] s QR

theorem p120_0 {n0 ro rt : Nat} {t0 : AV} {s : Sto} {QR : AV → Sto → Prop} (h :
 wNew s [(I64 0), (I64 0), (SS []), (.capped [])] fun a2 s1x0 =>
 wBuild [(I64 0), (I64 0), (SS []), (.capped [])] [(0, 1, (I64 1)), (1, 1, t0)] fun a4 =>
 wSt (LFE env 120 n0 ro rt) s1x0 4 a2 a4 fun s1x1 =>
 wLd env s1x1 (some 4) a2 fun r =>
 QR r s1x1) : P120_0 n0 ro rt t0 s QR :=
  wpc_mp (E := env) (L := LFE env 120 n0 ro rt) (N := 5) (lv := lv120) (ct := ct120) (rs := [.cell 2 27]) (QR := QR) (sub b120 []) [] [(0, t0)] s h (by kernel_rfl)

theorem e120 {t0 : AV} {u0 : AV} {Post : AV → Prop} (hcl : closeL [] 0 0 [t0] = some [u0]) (h : P120_0 0 0 0 u0 ⟨[], []⟩ (QP Post)) : PureC env 120 [t0] Post :=
  call_rd (fn := Tryz.f120) (body := b120) Tryz.func120 (by kernel_rfl) (by kernel_rfl) (by kernel_rfl) (Nat.le_of_ble_eq_true (by kernel_rfl)) hcl (mpK h (by kernel_rfl))

theorem i120 {t0 : AV} {s : Sto} {Post : AV → Prop} (hcl : closeL [] 0 0 [t0] = none) (h : P120_0 s.bs.length s.bs.length s.ts.length t0 s (QI s.bs.length s.ts.length Post)) : ∃ v, Post v ∧ ∀ L, CallE env L 120 [t0] s v s :=
  call_rdI (fn := Tryz.f120) (body := b120) Tryz.func120 (by kernel_rfl) (by kernel_rfl) (by kernel_rfl) (Nat.le_of_ble_eq_true (by kernel_rfl)) hcl (mpK h (by kernel_rfl))

/-! 121: telpher/value.operations$2 -/
noncomputable def b121 : Code := Tryz.f121.body.getD .skip
def lv121 (f : Nat) : List Nat := bif Nat.beq f 1 then [2, 3, 4] else []
def ct121 (f : Nat) : Bool := false
def P121_0 (n0 ro rt : Nat) (t0 t1 : AV) (s : Sto) (QR : AV → Sto → Prop) : Prop := Wp env (LFE env 121 n0 ro rt) 11 [.cell 4 27] (sub b121 []) [] [(0, t0), (1, t1)] s QR

theorem p121_0 {n0 ro rt : Nat} {t0 t1 : AV} {s : Sto} {QR : AV → Sto → Prop} (h :
 wBox s t0 fun a2 s1x0 =>
 wBox s1x0 t1 fun a3 s1x1 =>
 wNew s1x1 [(I64 0), (I64 0), (SS []), (.capped [])] fun a4 s1x2 =>
 wFad s1x2 a2 1 fun a5 =>
 wLd env s1x2 none a5 fun a6 =>
 wFad s1x2 a3 1 fun a7 =>
 wLd env s1x2 none a7 fun a8 =>
 wInt .i64 .sub a6 a8 fun a9 =>
 wCall env (LFE env 121 n0 ro rt) (.func (.func 120) [] []) [a9] s1x2 fun a10 s1x3 =>
 wSt (LFE env 121 n0 ro rt) s1x3 4 a4 a10 fun s1x4 =>
 wLd env s1x4 (some 4) a4 fun r =>
 QR r s1x4) : P121_0 n0 ro rt t0 t1 s QR :=
  wpc_mp (E := env) (L := LFE env 121 n0 ro rt) (N := 11) (lv := lv121) (ct := ct121) (rs := [.cell 4 27]) (QR := QR) (sub b121 []) [] [(0, t0), (1, t1)] s h (by kernel_rfl)

theorem e121 {t0 t1 : AV} {Post : AV → Prop} (hn : noIdL [t0, t1] = true) (h : P121_0 0 0 0 t0 t1 ⟨[], []⟩ (QP Post)) : PureC env 121 [t0, t1] Post :=
  call_imp (fn := Tryz.f121) (body := b121) Tryz.func121 (by kernel_rfl) (by kernel_rfl) (by kernel_rfl) (Nat.le_of_ble_eq_true (by kernel_rfl)) hn (mpK h (by kernel_rfl))

theorem m121 {t0 t1 : AV} {L : Lim} {s : Sto} {Post : AV → Sto → Prop} (hn : noIdL [t0, t1] = false) (h : P121_0 0 L.ro L.rt t0 t1 s (QM (L.rr 121) s.bs.length Post)) : ∃ v s', Post v s' ∧ CallE env L 121 [t0, t1] s v s' :=
  call_im (fn := Tryz.f121) (body := b121) Tryz.func121 (by kernel_rfl) (by kernel_rfl) (by kernel_rfl) (Nat.le_of_ble_eq_true (by kernel_rfl)) hn (mpK h (by kernel_rfl))

/-! 122: telpher/value.operations$3 -/
noncomputable def b122 : Code := Tryz.f122.body.getD .skip
def lv122 (f : Nat) : List Nat := bif Nat.beq f 1 then [2, 3, 4] else []
def ct122 (f : Nat) : Bool := false
def P122_0 (n0 ro rt : Nat) (t0 t1 : AV) (s : Sto) (QR : AV → Sto → Prop) : Prop := Wp env (LFE env 122 n0 ro rt) 11 [.cell 4 27] (sub b122 []) [] [(0, t0), (1, t1)] s QR

theorem p122_0 {n0 ro rt : Nat} {t0 t1 : AV} {s : Sto} {QR : AV → Sto → Prop} (h :
 wBox s t0 fun a2 s1x0 =>
 wBox s1x0 t1 fun a3 s1x1 =>
 wNew s1x1 [(I64 0), (I64 0), (SS []), (.capped [])] fun a4 s1x2 =>
 wFad s1x2 a2 1 fun a5 =>
 wLd env s1x2 none a5 fun a6 =>
 wFad s1x2 a3 1 fun a7 =>
 wLd env s1x2 none a7 fun a8 =>
 wInt .i64 .mul a6 a8 fun a9 =>
 wCall env (LFE env 122 n0 ro rt) (.func (.func 120) [] []) [a9] s1x2 fun a10 s1x3 =>
 wSt (LFE env 122 n0 ro rt) s1x3 4 a4 a10 fun s1x4 =>
 wLd env s1x4 (some 4) a4 fun r =>
 QR r s1x4) : P122_0 n0 ro rt t0 t1 s QR :=
  wpc_mp (E := env) (L := LFE env 122 n0 ro rt) (N := 11) (lv := lv122) (ct := ct122) (rs := [.cell 4 27]) (QR := QR) (sub b122 []) [] [(0, t0), (1, t1)] s h (by kernel_rfl)

theorem e122 {t0 t1 : AV} {Post : AV → Prop} (hn : noIdL [t0, t1] = true) (h : P122_0 0 0 0 t0 t1 ⟨[], []⟩ (QP Post)) : PureC env 122 [t0, t1] Post :=
  call_imp (fn := Tryz.f122) (body := b122) Tryz.func122 (by kernel_rfl) (by kernel_rfl) (by kernel_rfl) (Nat.le_of_ble_eq_true (by kernel_rfl)) hn (mpK h (by kernel_rfl))

theorem m122 {t0 t1 : AV} {L : Lim} {s : Sto} {Post : AV → Sto → Prop} (hn : noIdL [t0, t1] = false) (h : P122_0 0 L.ro L.rt t0 t1 s (QM (L.rr 122) s.bs.length Post)) : ∃ v s', Post v s' ∧ CallE env L 122 [t0, t1] s v s' :=
  call_im (fn := Tryz.f122) (body := b122) Tryz.func122 (by kernel_rfl) (by kernel_rfl) (by kernel_rfl) (Nat.le_of_ble_eq_true (by kernel_rfl)) hn (mpK h (by kernel_rfl))

/-! 123: telpher/value.operations$4 -/
noncomputable def b123 : Code := Tryz.f123.body.getD .skip
def lv123 (f : Nat) : List Nat := bif Nat.beq f 1 then [2, 3, 4] else []
def ct123 (f : Nat) : Bool := false
def P123_0 (n0 ro rt : Nat) (t0 t1 : AV) (s : Sto) (QR : AV → Sto → Prop) : Prop := Wp env (LFE env 123 n0 ro rt) 11 [.cell 4 27] (sub b123 []) [] [(0, t0), (1, t1)] s QR

theorem p123_0 {n0 ro rt : Nat} {t0 t1 : AV} {s : Sto} {QR : AV → Sto → Prop} (h :
 wBox s t0 fun a2 s1x0 =>
 wBox s1x0 t1 fun a3 s1x1 =>
 wNew s1x1 [(I64 0), (I64 0), (SS []), (.capped [])] fun a4 s1x2 =>
 wFad s1x2 a2 1 fun a5 =>
 wLd env s1x2 none a5 fun a6 =>
 wFad s1x2 a3 1 fun a7 =>
 wLd env s1x2 none a7 fun a8 =>
 wInt .i64 .lss a6 a8 fun a9 =>
 wCall env (LFE env 123 n0 ro rt) (.func (.func 58) [] []) [a9] s1x2 fun a10 s1x3 =>
 wSt (LFE env 123 n0 ro rt) s1x3 4 a4 a10 fun s1x4 =>
 wLd env s1x4 (some 4) a4 fun r =>
 QR r s1x4) : P123_0 n0 ro rt t0 t1 s QR :=
  wpc_mp (E := env) (L := LFE env 123 n0 ro rt) (N := 11) (lv := lv123) (ct := ct123) (rs := [.cell 4 27]) (QR := QR) (sub b123 []) [] [(0, t0), (1, t1)] s h (by kernel_rfl)

theorem e123 {t0 t1 : AV} {Post : AV → Prop} (hn : noIdL [t0, t1] = true) (h : P123_0 0 0 0 t0 t1 ⟨[], []⟩ (QP Post)) : PureC env 123 [t0, t1] Post :=
  call_imp (fn := Tryz.f123) (body := b123) Tryz.func123 (by kernel_rfl) (by kernel_rfl) (by kernel_rfl) (Nat.le_of_ble_eq_true (by kernel_rfl)) hn (mpK h (by kernel_rfl))

theorem m123 {t0 t1 : AV} {L : Lim} {s : Sto} {Post : AV → Sto → Prop} (hn : noIdL [t0, t1] = false) (h : P123_0 0 L.ro L.rt t0 t1 s (QM (L.rr 123) s.bs.length Post)) : ∃ v s', Post v s' ∧ CallE env L 123 [t0, t1] s v s' :=
  call_im (fn := Tryz.f123) (body := b123) Tryz.func123 (by kernel_rfl) (by kernel_rfl) (by kernel_rfl) (Nat.le_of_ble_eq_true (by kernel_rfl)) hn (mpK h (by kernel_rfl))

/-! 124: telpher/value.operations$5 -/
noncomputable def b124 : Code := Tryz.f124.body.getD .skip
def lv124 (f : Nat) : List Nat := bif Nat.beq f 1 then [2, 3, 4] else []
def ct124 (f : Nat) : Bool := false
def P124_0 (n0 ro rt : Nat) (t0 t1 : AV) (s : Sto) (QR : AV → Sto → Prop) : Prop := Wp env (LFE env 124 n0 ro rt) 11 [.cell 4 27] (sub b124 []) [] [(0, t0), (1, t1)] s QR

theorem p124_0 {n0 ro rt : Nat} {t0 t1 : AV} {s : Sto} {QR : AV → Sto → Prop} (h :
 wBox s t0 fun a2 s1x0 =>
 wBox s1x0 t1 fun a3 s1x1 =>
 wNew s1x1 [(I64 0), (I64 0), (SS []), (.capped [])] fun a4 s1x2 =>
 wFad s1x2 a2 2 fun a5 =>
 wLd env s1x2 none a5 fun a6 =>
 wFad s1x2 a3 2 fun a7 =>
 wLd env s1x2 none a7 fun a8 =>
 wStr .add a6 a8 fun a9 =>
 wBuild [(I64 0), (I64 0), (SS []), (.capped [])] [(0, 1, (I64 3)), (2, 1, a9)] fun a10 =>
 wSt (LFE env 124 n0 ro rt) s1x2 4 a4 a10 fun s1x3 =>
 wLd env s1x3 (some 4) a4 fun r =>
 QR r s1x3) : P124_0 n0 ro rt t0 t1 s QR :=
  wpc_mp (E := env) (L := LFE env 124 n0 ro rt) (N := 11) (lv := lv124) (ct := ct124) (rs := [.cell 4 27]) (QR := QR) (sub b124 []) [] [(0, t0), (1, t1)] s h (by kernel_rfl)

theorem e124 {t0 t1 : AV} {Post : AV → Prop} (hn : noIdL [t0, t1] = true) (h : P124_0 0 0 0 t0 t1 ⟨[], []⟩ (QP Post)) : PureC env 124 [t0, t1] Post :=
  call_imp (fn := Tryz.f124) (body := b124) Tryz.func124 (by kernel_rfl) (by kernel_rfl) (by kernel_rfl) (Nat.le_of_ble_eq_true (by kernel_rfl)) hn (mpK h (by kernel_rfl))

theorem m124 {t0 t1 : AV} {L : Lim} {s : Sto} {Post : AV → Sto → Prop} (hn : noIdL [t0, t1] = false) (h : P124_0 0 L.ro L.rt t0 t1 s (QM (L.rr 124) s.bs.length Post)) : ∃ v s', Post v s' ∧ CallE env L 124 [t0, t1] s v s' :=
  call_im (fn := Tryz.f124) (body := b124) Tryz.func124 (by kernel_rfl) (by kernel_rfl) (by kernel_rfl) (Nat.le_of_ble_eq_true (by kernel_rfl)) hn (mpK h (by kernel_rfl))

end Go.Proofs.YtdbilmjamgjkeaaGreatDoor
