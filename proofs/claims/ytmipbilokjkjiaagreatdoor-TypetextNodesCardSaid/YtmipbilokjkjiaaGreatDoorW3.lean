/-
  What the points of some functions' code need: written by a program (wip/tel/GenW.lean.txt).
-/
import Derived.Test.YtmipbilokjkjiaaGreatDoorTab
import Derived.Test.YtmipbilokjkjiaaGreatDoorWvF
set_option linter.unusedSimpArgs false
set_option linter.unusedVariables false
namespace Go.Proofs.YtmipbilokjkjiaaGreatDoor
open Go.Tel
/-! 8: telpher/telmake.New -/
noncomputable def b8 : Code := Tryz.f8.body.getD .skip
def lv8 (f : Nat) : List Nat := bif Nat.beq f 1 then [0] else []
def ct8 (f : Nat) : Bool := false
def P8_0 (R : RT) (n0 ro rt : Nat) (t0 : AV) (s : Sto) (QR : QT) : Prop := Wp (env R) (LFE (env R) 8 n0 ro rt) 6 [.tmp 2] (sub b8 []) [] [(0,t0)] s QR
theorem p8_0 {R : RT} {n0 ro rt : Nat} {t0 : AV} {s : Sto} {QR : QT} (h :
 wBuild [(.capped []),(I64 0)] [(0,1,t0)] fun a4 =>
 wBox s a4 fun a5 s1x0 =>
 QR a5 s1x0) : P8_0 R n0 ro rt t0 s QR :=
  wpc_mp (lv := lv8) (ct := ct8) _ _ _ _ h (by kernel_rfl)
theorem m8 {R : RT} {t0 : AV} {L : Lim} {s : Sto} {Post : AV → Sto → Prop} (h : P8_0 R L.n0 L.ro L.rt t0 s Post) : ∃ v s',Post v s' ∧ CallE (env R) L 8 [t0] s v s' :=
  call_esc (fn := Tryz.f8) (body := b8) Tryz.func8 (by kernel_rfl) (by kernel_rfl) (by kernel_rfl) (Nat.le_of_ble_eq_true (by kernel_rfl)) (mpK h (by kernel_rfl))
/-! 18: telpher/telmake.Mod -/
noncomputable def b18 : Code := Tryz.f18.body.getD .skip
def lv18 (f : Nat) : List Nat := bif Nat.blt f 3 then (
 bif Nat.blt f 2 then (
  bif Nat.beq f 1 then [0,1] else []) else (
  bif Nat.beq f 2 then [0,1] else [])) else (
 bif Nat.blt f 4 then (
  bif Nat.beq f 3 then [0,1,9] else []) else (
  bif Nat.beq f 4 then [0] else []))
def ct18 (f : Nat) : Bool := false
def P18_0 (R : RT) (n0 ro rt : Nat) (t0 t1 : AV) (s : Sto) (QR : QT) : Prop := Wp (env R) (LFE (env R) 18 n0 ro rt) 14 [.tmp 4] (sub b18 []) [] [(0,t0),(1,t1)] s QR
def P18_1 (R : RT) (n0 ro rt : Nat) (t0 : AV) (s : Sto) (QR : QT) : Prop := Wp (env R) (LFE (env R) 18 n0 ro rt) 14 [.tmp 4] (sub b18 [1,1,1]) [] [(0,t0)] s QR
theorem p18_0 {R : RT} {n0 ro rt : Nat} {t0 t1 : AV} {s : Sto} {QR : QT} (h :
 wInt .i64 .rem t0 t1 fun a7 =>
 wInt .i64 .lss a7 (I64 0) fun a9 =>
 wCond a9 (
 wInt .i64 .add a7 t1 fun a12 =>
 P18_1 R n0 ro rt a12 s QR) (
 P18_1 R n0 ro rt a7 s QR)) : P18_0 R n0 ro rt t0 t1 s QR :=
  wpc_mp (lv := lv18) (ct := ct18) _ _ _ _ h (by kernel_rfl)
theorem p18_1 {R : RT} {n0 ro rt : Nat} {t0 : AV} {s : Sto} {QR : QT} (h :
 QR t0 s) : P18_1 R n0 ro rt t0 s QR :=
  wpc_mp (lv := lv18) (ct := ct18) _ _ _ _ h (by kernel_rfl)
theorem e18 {R : RT} {t0 t1 : AV} {u0 u1 : AV} {Post : AV → Prop} (hcl : closeL [] 0 0 [t0,t1] = some [u0,u1]) (h : P18_0 R 0 0 0 u0 u1 ⟨[],[]⟩ (QP Post)) : PureC (env R) 18 [t0,t1] Post :=
  call_rd (fn := Tryz.f18) (body := b18) Tryz.func18 (by kernel_rfl) (by kernel_rfl) (by kernel_rfl) (Nat.le_of_ble_eq_true (by kernel_rfl)) hcl (mpK h (by kernel_rfl))
/-! 44: (*telpher/telmake.Stream).Next -/
noncomputable def b44 : Code := Tryz.f44.body.getD .skip
def lv44 (f : Nat) : List Nat := bif Nat.blt f 3 then (
 bif Nat.blt f 2 then (
  bif Nat.beq f 1 then [0,1] else []) else (
  bif Nat.beq f 2 then [0,1,14] else [])) else (
 bif Nat.blt f 4 then (
  bif Nat.beq f 3 then [0,1] else []) else (
  bif Nat.beq f 4 then [0,1] else []))
def ct44 (f : Nat) : Bool := false
def P44_0 (R : RT) (n0 ro rt : Nat) (t0 t1 : AV) (s : Sto) (QR : QT) : Prop := Wp (env R) (LFE (env R) 44 n0 ro rt) 35 [.tmp 4] (sub b44 []) [] [(0,t0),(1,t1)] s QR
def P44_1 (R : RT) (n0 ro rt : Nat) (t0 t1 : AV) (s : Sto) (QR : QT) : Prop := Wp (env R) (LFE (env R) 44 n0 ro rt) 35 [.tmp 4] (sub b44 [1,1]) [] [(0,t0),(1,t1)] s QR
theorem p44_0 {R : RT} {n0 ro rt : Nat} {t0 t1 : AV} {s : Sto} {QR : QT} (h :
 wNil s t0 fun a6 =>
 wFad s a6 1 fun a7 =>
 wLd (env R) s none a7 fun a8 =>
 wNil s t0 fun a10 =>
 wFad s a10 0 fun a11 =>
 wLd (env R) s none a11 fun a12 =>
 wLen s a12 fun a13 =>
 wInt .i64 .geq a8 a13 fun a14 =>
 wCond a14 (
 QR (I64 0) s) (
 P44_1 R n0 ro rt t0 t1 s QR)) : P44_0 R n0 ro rt t0 t1 s QR :=
  wpc_mp (lv := lv44) (ct := ct44) _ _ _ _ h (by kernel_rfl)
theorem p44_1 {R : RT} {n0 ro rt : Nat} {t0 t1 : AV} {s : Sto} {QR : QT} (h :
 wNil s t0 fun a16 =>
 wFad s a16 1 fun a17 =>
 wLd (env R) s none a17 fun a18 =>
 wInt .i64 .add a18 (I64 1) fun a19 =>
 wNil s t0 fun a20 =>
 wFad s a20 1 fun a21 =>
 wSt (LFE (env R) 44 n0 ro rt) s 1 a21 a19 fun s1x0 =>
 wNil s1x0 t0 fun a23 =>
 wFad s1x0 a23 0 fun a24 =>
 wLd (env R) s1x0 none a24 fun a25 =>
 wNil s1x0 t0 fun a27 =>
 wFad s1x0 a27 1 fun a28 =>
 wLd (env R) s1x0 none a28 fun a29 =>
 wInt .i64 .sub a29 (I64 1) fun a30 =>
 wIdx s1x0 1 a25 a30 fun a31 =>
 wLd (env R) s1x0 none a31 fun a32 =>
 wCall (env R) (LFE (env R) 44 n0 ro rt) (.func (.func 18) [] []) [a32,t1] s1x0 fun a34 s1x1 =>
 QR a34 s1x1) : P44_1 R n0 ro rt t0 t1 s QR :=
  wpc_mp (lv := lv44) (ct := ct44) _ _ _ _ h (by kernel_rfl)
theorem m44 {R : RT} {t0 t1 : AV} {L : Lim} {s : Sto} {Post : AV → Sto → Prop} (hn : noIdL [t0,t1] = false) (h : P44_0 R 0 L.ro L.rt t0 t1 s (QM (L.rr 44) s.bs.length Post)) : ∃ v s',Post v s' ∧ CallE (env R) L 44 [t0,t1] s v s' :=
  call_im (fn := Tryz.f44) (body := b44) Tryz.func44 (by kernel_rfl) (by kernel_rfl) (by kernel_rfl) (Nat.le_of_ble_eq_true (by kernel_rfl)) hn (mpK h (by kernel_rfl))
/-! 45: (*telpher/telmake.Stream).Raw -/
noncomputable def b45 : Code := Tryz.f45.body.getD .skip
def lv45 (f : Nat) : List Nat := bif Nat.blt f 3 then (
 bif Nat.blt f 2 then (
  bif Nat.beq f 1 then [0] else []) else (
  bif Nat.beq f 2 then [0,12] else [])) else (
 bif Nat.blt f 4 then (
  bif Nat.beq f 3 then [0] else []) else (
  bif Nat.beq f 4 then [0] else []))
def ct45 (f : Nat) : Bool := false
def P45_0 (R : RT) (n0 ro rt : Nat) (t0 : AV) (s : Sto) (QR : QT) : Prop := Wp (env R) (LFE (env R) 45 n0 ro rt) 31 [.tmp 2] (sub b45 []) [] [(0,t0)] s QR
def P45_1 (R : RT) (n0 ro rt : Nat) (t0 : AV) (s : Sto) (QR : QT) : Prop := Wp (env R) (LFE (env R) 45 n0 ro rt) 31 [.tmp 2] (sub b45 [1,1]) [] [(0,t0)] s QR
theorem p45_0 {R : RT} {n0 ro rt : Nat} {t0 : AV} {s : Sto} {QR : QT} (h :
 wNil s t0 fun a4 =>
 wFad s a4 1 fun a5 =>
 wLd (env R) s none a5 fun a6 =>
 wNil s t0 fun a8 =>
 wFad s a8 0 fun a9 =>
 wLd (env R) s none a9 fun a10 =>
 wLen s a10 fun a11 =>
 wInt .i64 .geq a6 a11 fun a12 =>
 wCond a12 (
 QR (I64 0) s) (
 P45_1 R n0 ro rt t0 s QR)) : P45_0 R n0 ro rt t0 s QR :=
  wpc_mp (lv := lv45) (ct := ct45) _ _ _ _ h (by kernel_rfl)
theorem p45_1 {R : RT} {n0 ro rt : Nat} {t0 : AV} {s : Sto} {QR : QT} (h :
 wNil s t0 fun a14 =>
 wFad s a14 1 fun a15 =>
 wLd (env R) s none a15 fun a16 =>
 wInt .i64 .add a16 (I64 1) fun a17 =>
 wNil s t0 fun a18 =>
 wFad s a18 1 fun a19 =>
 wSt (LFE (env R) 45 n0 ro rt) s 1 a19 a17 fun s1x0 =>
 wNil s1x0 t0 fun a21 =>
 wFad s1x0 a21 0 fun a22 =>
 wLd (env R) s1x0 none a22 fun a23 =>
 wNil s1x0 t0 fun a25 =>
 wFad s1x0 a25 1 fun a26 =>
 wLd (env R) s1x0 none a26 fun a27 =>
 wInt .i64 .sub a27 (I64 1) fun a28 =>
 wIdx s1x0 1 a23 a28 fun a29 =>
 wLd (env R) s1x0 none a29 fun a30 =>
 QR a30 s1x0) : P45_1 R n0 ro rt t0 s QR :=
  wpc_mp (lv := lv45) (ct := ct45) _ _ _ _ h (by kernel_rfl)
theorem m45 {R : RT} {t0 : AV} {L : Lim} {s : Sto} {Post : AV → Sto → Prop} (hn : noIdL [t0] = false) (h : P45_0 R 0 L.ro L.rt t0 s (QM (L.rr 45) s.bs.length Post)) : ∃ v s',Post v s' ∧ CallE (env R) L 45 [t0] s v s' :=
  call_im (fn := Tryz.f45) (body := b45) Tryz.func45 (by kernel_rfl) (by kernel_rfl) (by kernel_rfl) (Nat.le_of_ble_eq_true (by kernel_rfl)) hn (mpK h (by kernel_rfl))
/-! 32: telpher/telref1.Exists -/
noncomputable def b32 : Code := Tryz.f32.body.getD .skip
def lv32 (f : Nat) : List Nat := bif Nat.beq f 1 then [2,3,4] else []
def ct32 (f : Nat) : Bool := false
def P32_0 (R : RT) (n0 ro rt : Nat) (t0 t1 : AV) (s : Sto) (QR : QT) : Prop := Wp (env R) (LFE (env R) 32 n0 ro rt) 9 [.cell 4 25] (sub b32 []) [] [(0,t0),(1,t1)] s QR
theorem p32_0 {R : RT} {n0 ro rt : Nat} {t0 t1 : AV} {s : Sto} {QR : QT} (h :
 wBox s t0 fun a2 s1x0 =>
 wBox s1x0 t1 fun a3 s1x1 =>
 wNew s1x1 [(I64 0),(SS []),(I64 0),(.capped [])] fun a4 s1x2 =>
 wLd (env R) s1x2 (some 4) a2 fun a5 =>
 wLd (env R) s1x2 (some 4) a3 fun a6 =>
 wBsl false s1x2 4 [(I64 0),(SS []),(I64 0),(.capped [])] 2 [(0,4,a5),(4,4,a6)] fun a7 s1x3 =>
 wBuild [(I64 0),(SS []),(I64 0),(.capped [])] [(0,1,(I64 6)),(3,1,a7)] fun a8 =>
 wSt (LFE (env R) 32 n0 ro rt) s1x3 4 a4 a8 fun s1x4 =>
 wLd (env R) s1x4 (some 4) a4 fun r =>
 QR r s1x4) : P32_0 R n0 ro rt t0 t1 s QR :=
  wpc_mp (lv := lv32) (ct := ct32) _ _ _ _ h (by kernel_rfl)
theorem e32 {R : RT} {t0 t1 : AV} {u0 u1 : AV} {Post : AV → Prop} (hcl : closeL [] 0 0 [t0,t1] = some [u0,u1]) (h : P32_0 R 0 0 0 u0 u1 ⟨[],[]⟩ (QP Post)) : PureC (env R) 32 [t0,t1] Post :=
  call_rd (fn := Tryz.f32) (body := b32) Tryz.func32 (by kernel_rfl) (by kernel_rfl) (by kernel_rfl) (Nat.le_of_ble_eq_true (by kernel_rfl)) hcl (mpK h (by kernel_rfl))
/-! 33: telpher/telref1.Any -/
noncomputable def b33 : Code := Tryz.f33.body.getD .skip
def lv33 (f : Nat) : List Nat := bif Nat.beq f 1 then [0] else []
def ct33 (f : Nat) : Bool := false
def P33_0 (R : RT) (n0 ro rt : Nat) (s : Sto) (QR : QT) : Prop := Wp (env R) (LFE (env R) 33 n0 ro rt) 2 [.cell 0 25] (sub b33 []) [] [] s QR
theorem p33_0 {R : RT} {n0 ro rt : Nat} {s : Sto} {QR : QT} (h :
 wNew s [(I64 0),(SS []),(I64 0),(.capped [])] fun a0 s1x0 =>
 wBuild [(I64 0),(SS []),(I64 0),(.capped [])] [] fun a1 =>
 wSt (LFE (env R) 33 n0 ro rt) s1x0 4 a0 a1 fun s1x1 =>
 wLd (env R) s1x1 (some 4) a0 fun r =>
 QR r s1x1) : P33_0 R n0 ro rt  s QR :=
  wpc_mp (lv := lv33) (ct := ct33) _ _ _ _ h (by kernel_rfl)
theorem e33 {R : RT} {Post : AV → Prop} (hcl : closeL [] 0 0 [] = some []) (h : P33_0 R 0 0 0  ⟨[],[]⟩ (QP Post)) : PureC (env R) 33 [] Post :=
  call_rd (fn := Tryz.f33) (body := b33) Tryz.func33 (by kernel_rfl) (by kernel_rfl) (by kernel_rfl) (Nat.le_of_ble_eq_true (by kernel_rfl)) hcl (mpK h (by kernel_rfl))
/-! 34: telpher/telref1.Tuple -/
noncomputable def b34 : Code := Tryz.f34.body.getD .skip
def lv34 (f : Nat) : List Nat := bif Nat.beq f 1 then [0,2] else []
def ct34 (f : Nat) : Bool := false
def P34_0 (R : RT) (n0 ro rt : Nat) (t0 : AV) (s : Sto) (QR : QT) : Prop := Wp (env R) (LFE (env R) 34 n0 ro rt) 5 [.cell 2 25] (sub b34 []) [] [(0,t0)] s QR
/-! 35: telpher/telref1.Var -/
noncomputable def b35 : Code := Tryz.f35.body.getD .skip
def lv35 (f : Nat) : List Nat := bif Nat.beq f 1 then [0,2] else []
def ct35 (f : Nat) : Bool := false
def P35_0 (R : RT) (n0 ro rt : Nat) (t0 : AV) (s : Sto) (QR : QT) : Prop := Wp (env R) (LFE (env R) 35 n0 ro rt) 5 [.cell 2 25] (sub b35 []) [] [(0,t0)] s QR
theorem p35_0 {R : RT} {n0 ro rt : Nat} {t0 : AV} {s : Sto} {QR : QT} (h :
 wNew s [(I64 0),(SS []),(I64 0),(.capped [])] fun a2 s1x0 =>
 wBuild [(I64 0),(SS []),(I64 0),(.capped [])] [(0,1,(I64 5)),(2,1,t0)] fun a4 =>
 wSt (LFE (env R) 35 n0 ro rt) s1x0 4 a2 a4 fun s1x1 =>
 wLd (env R) s1x1 (some 4) a2 fun r =>
 QR r s1x1) : P35_0 R n0 ro rt t0 s QR :=
  wpc_mp (lv := lv35) (ct := ct35) _ _ _ _ h (by kernel_rfl)
theorem e35 {R : RT} {t0 : AV} {u0 : AV} {Post : AV → Prop} (hcl : closeL [] 0 0 [t0] = some [u0]) (h : P35_0 R 0 0 0 u0 ⟨[],[]⟩ (QP Post)) : PureC (env R) 35 [t0] Post :=
  call_rd (fn := Tryz.f35) (body := b35) Tryz.func35 (by kernel_rfl) (by kernel_rfl) (by kernel_rfl) (Nat.le_of_ble_eq_true (by kernel_rfl)) hcl (mpK h (by kernel_rfl))
/-! 36: telpher/telref1.Named -/
noncomputable def b36 : Code := Tryz.f36.body.getD .skip
def lv36 (f : Nat) : List Nat := bif Nat.beq f 1 then [0,1,4] else []
def ct36 (f : Nat) : Bool := false
def P36_0 (R : RT) (n0 ro rt : Nat) (t0 t1 : AV) (s : Sto) (QR : QT) : Prop := Wp (env R) (LFE (env R) 36 n0 ro rt) 8 [.cell 4 25] (sub b36 []) [] [(0,t0),(1,t1)] s QR
theorem p36_0 {R : RT} {n0 ro rt : Nat} {t0 t1 : AV} {s : Sto} {QR : QT} (h :
 wNew s [(I64 0),(SS []),(I64 0),(.capped [])] fun a4 s1x0 =>
 wBuild [(I64 0),(SS []),(I64 0),(.capped [])] [(0,1,(I64 2)),(1,1,t0),(3,1,t1)] fun a7 =>
 wSt (LFE (env R) 36 n0 ro rt) s1x0 4 a4 a7 fun s1x1 =>
 wLd (env R) s1x1 (some 4) a4 fun r =>
 QR r s1x1) : P36_0 R n0 ro rt t0 t1 s QR :=
  wpc_mp (lv := lv36) (ct := ct36) _ _ _ _ h (by kernel_rfl)
theorem e36 {R : RT} {t0 t1 : AV} {u0 u1 : AV} {Post : AV → Prop} (hcl : closeL [] 0 0 [t0,t1] = some [u0,u1]) (h : P36_0 R 0 0 0 u0 u1 ⟨[],[]⟩ (QP Post)) : PureC (env R) 36 [t0,t1] Post :=
  call_rd (fn := Tryz.f36) (body := b36) Tryz.func36 (by kernel_rfl) (by kernel_rfl) (by kernel_rfl) (Nat.le_of_ble_eq_true (by kernel_rfl)) hcl (mpK h (by kernel_rfl))
/-! 49: telpher/telref1.UnionTerm -/
noncomputable def b49 : Code := Tryz.f49.body.getD .skip
def lv49 (f : Nat) : List Nat := bif Nat.beq f 1 then [0,2] else []
def ct49 (f : Nat) : Bool := false
def P49_0 (R : RT) (n0 ro rt : Nat) (t0 : AV) (s : Sto) (QR : QT) : Prop := Wp (env R) (LFE (env R) 49 n0 ro rt) 5 [.cell 2 25] (sub b49 []) [] [(0,t0)] s QR
/-! 50: telpher/telref1.Never -/
noncomputable def b50 : Code := Tryz.f50.body.getD .skip
def lv50 (f : Nat) : List Nat := bif Nat.beq f 1 then [0] else []
def ct50 (f : Nat) : Bool := false
def P50_0 (R : RT) (n0 ro rt : Nat) (s : Sto) (QR : QT) : Prop := Wp (env R) (LFE (env R) 50 n0 ro rt) 2 [.cell 0 25] (sub b50 []) [] [] s QR
theorem p50_0 {R : RT} {n0 ro rt : Nat} {s : Sto} {QR : QT} (h :
 wNew s [(I64 0),(SS []),(I64 0),(.capped [])] fun a0 s1x0 =>
 wBuild [(I64 0),(SS []),(I64 0),(.capped [])] [(0,1,(I64 1))] fun a1 =>
 wSt (LFE (env R) 50 n0 ro rt) s1x0 4 a0 a1 fun s1x1 =>
 wLd (env R) s1x1 (some 4) a0 fun r =>
 QR r s1x1) : P50_0 R n0 ro rt  s QR :=
  wpc_mp (lv := lv50) (ct := ct50) _ _ _ _ h (by kernel_rfl)
theorem e50 {R : RT} {Post : AV → Prop} (hcl : closeL [] 0 0 [] = some []) (h : P50_0 R 0 0 0  ⟨[],[]⟩ (QP Post)) : PureC (env R) 50 [] Post :=
  call_rd (fn := Tryz.f50) (body := b50) Tryz.func50 (by kernel_rfl) (by kernel_rfl) (by kernel_rfl) (Nat.le_of_ble_eq_true (by kernel_rfl)) hcl (mpK h (by kernel_rfl))
end Go.Proofs.YtmipbilokjkjiaaGreatDoor
