/-
  What the points of some functions' code need: written by a program (wip/tel/GenW.lean.txt).
-/
import Derived.Test.YtpmafnbhkhdaiaaGreatDoorTab
import Derived.Test.YtpmafnbhkhdaiaaGreatDoorWvF
set_option linter.unusedSimpArgs false
set_option linter.unusedVariables false
namespace Go.Proofs.YtpmafnbhkhdaiaaGreatDoor
open Go.Tel
variable {R : RT} {n0 ro rt : Nat} {s : Sto} {QR : QT}
noncomputable def b3 : Code := Tryz.f3.body.getD .skip
def lv3 (f : Nat) : List Nat := bif Nat.blt f 12 then (
 bif Nat.blt f 6 then (
  bif Nat.blt f 3 then (
   bif Nat.blt f 2 then (
    bif Nat.beq f 1 then [0] else []) else (
    bif Nat.beq f 2 then [0,3,5] else [])) else (
   bif Nat.blt f 4 then (
    bif Nat.beq f 3 then [0,5,6] else []) else (
    bif Nat.blt f 5 then (
     bif Nat.beq f 4 then [0,6,36] else []) else (
     bif Nat.beq f 5 then [0,6] else [])))) else (
  bif Nat.blt f 9 then (
   bif Nat.blt f 7 then (
    bif Nat.beq f 6 then [0,6] else []) else (
    bif Nat.blt f 8 then (
     bif Nat.beq f 7 then [0,6,7,8] else []) else (
     bif Nat.beq f 8 then [0,6,7,8,9] else []))) else (
   bif Nat.blt f 10 then (
    bif Nat.beq f 9 then [0,6,7,8,9,10] else []) else (
    bif Nat.blt f 11 then (
     bif Nat.beq f 10 then [0,6,7,8,9,10,11] else []) else (
     bif Nat.beq f 11 then [0,6,7,8,9,10,11] else []))))) else (
 bif Nat.blt f 18 then (
  bif Nat.blt f 15 then (
   bif Nat.blt f 13 then (
    bif Nat.beq f 12 then [0,6,7,8,9,11] else []) else (
    bif Nat.blt f 14 then (
     bif Nat.beq f 13 then [0,6,7,8,10] else []) else (
     bif Nat.beq f 14 then [0,6,7,8,10,13] else []))) else (
   bif Nat.blt f 16 then (
    bif Nat.beq f 15 then [0,6,7,8,10,13,14] else []) else (
    bif Nat.blt f 17 then (
     bif Nat.beq f 16 then [0,6,7,8,10,13,14] else []) else (
     bif Nat.beq f 17 then [0,6,7,8,10,13,14] else [])))) else (
  bif Nat.blt f 21 then (
   bif Nat.blt f 19 then (
    bif Nat.beq f 18 then [0,6,7,8,10,13,14,16] else []) else (
    bif Nat.blt f 20 then (
     bif Nat.beq f 19 then [0,6,7,8,10,13,14,88] else []) else (
     bif Nat.beq f 20 then [0,6,7,8,10,13] else []))) else (
   bif Nat.blt f 22 then (
    bif Nat.beq f 21 then [0,6,7,8,10,13,18] else []) else (
    bif Nat.blt f 23 then (
     bif Nat.beq f 22 then [0,6,7,8,10,13,18,96] else []) else (
     bif Nat.beq f 23 then [6,8,10,13,18] else [])))))
def ct3 (f : Nat) : Bool := false
def P3_0 (R : RT) (n0 ro rt : Nat) (t0 : AV) (s : Sto) (QR : QT) : Prop := Wp (env R) (LFE (env R) 3 n0 ro rt) 138 [.tmp 2] (sub b3 []) [] [(0,t0)] s QR
def P3_1 (R : RT) (n0 ro rt : Nat) (t0 t6 : AV) (s : Sto) (QR : QT) : Prop := Wp (env R) (LFE (env R) 3 n0 ro rt) 138 [.tmp 2] (sub b3 [1,1,1,1]) [] [(0,t0),(6,t6)] s QR
def P3_2 (R : RT) (n0 ro rt : Nat) (t0 t6 t7 t8 t9 t10 t11 : AV) (s : Sto) (QR : QT) : Prop := Wp (env R) (LFE (env R) 3 n0 ro rt) 138 [.tmp 2] (.loop (sub b3 [1,1,1,1,1,1,1,1,0,1,0,0])) [.blk 0,.seq (sub b3 [1,1,1,1,1,1,1,1,1])] [(0,t0),(6,t6),(7,t7),(8,t8),(9,t9),(10,t10),(11,t11)] s QR
def P3_3 (R : RT) (n0 ro rt : Nat) (t0 t6 t7 t8 t9 t11 : AV) (s : Sto) (QR : QT) : Prop := Wp (env R) (LFE (env R) 3 n0 ro rt) 138 [.tmp 2] (sub b3 [1,1,1,1,1,1,1,1,0,1,0,0,1]) [.loop (sub b3 [1,1,1,1,1,1,1,1,0,1,0,0]),.blk 0,.seq (sub b3 [1,1,1,1,1,1,1,1,1])] [(0,t0),(6,t6),(7,t7),(8,t8),(9,t9),(11,t11)] s QR
def P3_4 (R : RT) (n0 ro rt : Nat) (t0 t6 t7 t8 t10 : AV) (s : Sto) (QR : QT) : Prop := Wp (env R) (LFE (env R) 3 n0 ro rt) 138 [.tmp 2] (sub b3 [1,1,1,1,1,1,1,1,1]) [] [(0,t0),(6,t6),(7,t7),(8,t8),(10,t10)] s QR
def P3_5 (R : RT) (n0 ro rt : Nat) (t0 t6 t7 t8 t9 t10 t11 : AV) (s : Sto) (QR : QT) : Prop := Wp (env R) (LFE (env R) 3 n0 ro rt) 138 [.tmp 2] (sub b3 [1,1,1,1,1,1,1,1,0,1,0,0,1,1]) [.loop (sub b3 [1,1,1,1,1,1,1,1,0,1,0,0]),.blk 0,.seq (sub b3 [1,1,1,1,1,1,1,1,1])] [(0,t0),(6,t6),(7,t7),(8,t8),(9,t9),(10,t10),(11,t11)] s QR
def P3_6 (R : RT) (n0 ro rt : Nat) (t0 t6 t7 t8 t10 t13 t14 : AV) (s : Sto) (QR : QT) : Prop := Wp (env R) (LFE (env R) 3 n0 ro rt) 138 [.tmp 2] (.loop (sub b3 [1,1,1,1,1,1,1,1,1,1,0,1,0,0])) [.blk 2,.seq (sub b3 [1,1,1,1,1,1,1,1,1,1,1])] [(0,t0),(6,t6),(7,t7),(8,t8),(10,t10),(13,t13),(14,t14)] s QR
def P3_7 (R : RT) (n0 ro rt : Nat) (t0 t6 t7 t8 t10 t13 t14 : AV) (s : Sto) (QR : QT) : Prop := Wp (env R) (LFE (env R) 3 n0 ro rt) 138 [.tmp 2] (sub b3 [1,1,1,1,1,1,1,1,1,1,0,1,0,0,1]) [.loop (sub b3 [1,1,1,1,1,1,1,1,1,1,0,1,0,0]),.blk 2,.seq (sub b3 [1,1,1,1,1,1,1,1,1,1,1])] [(0,t0),(6,t6),(7,t7),(8,t8),(10,t10),(13,t13),(14,t14)] s QR
def P3_8 (R : RT) (n0 ro rt : Nat) (t0 t6 t7 t8 t10 t13 : AV) (s : Sto) (QR : QT) : Prop := Wp (env R) (LFE (env R) 3 n0 ro rt) 138 [.tmp 2] (sub b3 [1,1,1,1,1,1,1,1,1,1,1]) [] [(0,t0),(6,t6),(7,t7),(8,t8),(10,t10),(13,t13)] s QR
def P3_9 (R : RT) (n0 ro rt : Nat) (t0 t6 t7 t8 t10 t13 t14 : AV) (s : Sto) (QR : QT) : Prop := Wp (env R) (LFE (env R) 3 n0 ro rt) 138 [.tmp 2] (sub b3 [1,1,1,1,1,1,1,1,1,1,0,1,0,0,1,1]) [.loop (sub b3 [1,1,1,1,1,1,1,1,1,1,0,1,0,0]),.blk 2,.seq (sub b3 [1,1,1,1,1,1,1,1,1,1,1])] [(0,t0),(6,t6),(7,t7),(8,t8),(10,t10),(13,t13),(14,t14)] s QR
def P3_10 (R : RT) (n0 ro rt : Nat) (t6 t8 t10 t13 t18 : AV) (s : Sto) (QR : QT) : Prop := Wp (env R) (LFE (env R) 3 n0 ro rt) 138 [.tmp 2] (sub b3 [1,1,1,1,1,1,1,1,1,1,1,1,1]) [] [(6,t6),(8,t8),(10,t10),(13,t13),(18,t18)] s QR
theorem p3_0 {t0 : AV} (h :
 wCall (env R) (LFE (env R) 3 n0 ro rt) (.func (.func 5) [] []) [] s fun a b =>
 wCall (env R) (LFE (env R) 3 n0 ro rt) (.func (.func 4) [] []) [a] b fun c d =>
 wExt c 0 fun e =>
 wExt c 1 fun f =>
 wExt c 2 fun g =>
 wCall (env R) (LFE (env R) 3 n0 ro rt) (.func (.func 6) [] []) [e] d fun i j =>
 wCall (env R) (LFE (env R) 3 n0 ro rt) (.func (.func 7) [] []) [] j fun k l =>
 wNot k fun m =>
 wGK m false l (fun K => K g l) fun n o =>
 wGK m false o (fun K => wNot n fun p => K p o) fun q u =>
 wPick m (BB true) q fun v =>
 wGK v false u (fun K => K i u) fun w x =>
 wGK v false x (fun K => wNeP x (nilV w) (some 0) .eql w (.pv (.sc (.pointer none))) fun y => K y x) fun z aa =>
 wPick v (BB true) z fun ab =>
 wCond ab (
 QR (BB false) aa) (
 P3_1 R n0 ro rt t0 i aa QR)) : P3_0 R n0 ro rt t0 s QR :=
  wpc_mp (lv := lv3) (ct := ct3) _ _ _ _ h (by kernel_rfl)
theorem p3_1 {t0 t6 : AV} (h :
 wCall (env R) (LFE (env R) 3 n0 ro rt) (.func (.func 8) [] []) [t0,(I64 3)] s fun a b =>
 wInt .i64 .sub a (I64 1) fun c =>
 wCall (env R) (LFE (env R) 3 n0 ro rt) (.func (.func 10) [] []) [(SS [115]),(I64 1997)] b fun d e =>
 wBuild [(I64 0),(I64 0),(SS []),(.capped [])] [(0,1,(I64 3)),(2,1,d)] fun f =>
 wInt .i64 .add (I64 3) c fun g =>
 wCall (env R) (LFE (env R) 3 n0 ro rt) (.func (.func 10) [] []) [(SS [116]),g] e fun i j =>
 wBuild [(I64 0),(I64 0),(SS []),(.capped [])] [(0,1,(I64 3)),(2,1,i)] fun k =>
 wCall (env R) (LFE (env R) 3 n0 ro rt) (.func (.func 9) [] []) [(I64 6),f,k] j fun l m =>
 wExt l 0 fun n =>
 wExt l 1 fun o =>
 wNew m [(I64 0),(I64 0),(SS []),(.capped [])] fun p q =>
 wSt (LFE (env R) 3 n0 ro rt) q 4 p n fun u =>
 wBuild [(I64 0),(I64 0),(SS []),(.capped [])] [(0,1,(I64 4))] fun v =>
 wNew u [(I64 0),(I64 0),(SS []),(.capped [])] fun w x =>
 wSt (LFE (env R) 3 n0 ro rt) x 4 w v fun y =>
 P3_2 R n0 ro rt c t6 p o w (I64 0) (I64 0) y QR) : P3_1 R n0 ro rt t0 t6 s QR :=
  wpc_mp (lv := lv3) (ct := ct3) _ _ _ _ h (by kernel_rfl)
theorem p3_2 {t0 t6 t7 t8 t9 t10 t11 : AV} (h :
 wInt .i64 .add (I64 6) t0 fun a =>
 wInt .i64 .sub a (I64 1) fun b =>
 wInt .i64 .lss t11 b fun c =>
 wGK c true s (fun K => K t10 s) fun d e =>
 wGK c true e (fun K => wInt .i64 .eql d (I64 0) fun f => K f e) fun g i =>
 wPick c g (BB false) fun j =>
 wCond j (
 P3_3 R n0 ro rt t0 t6 t7 t8 t9 t11 i QR) (
 P3_4 R n0 ro rt t0 t6 t7 t8 t10 i QR)) : P3_2 R n0 ro rt t0 t6 t7 t8 t9 t10 t11 s QR :=
  wpl_mp (lv := lv3) (ct := ct3) _ _ _ _ h (by kernel_rfl)
theorem p3_3 {t0 t6 t7 t8 t9 t11 : AV} (h :
 wLd (env R) s (some 4) t9 fun a =>
 wBsl false s 4 [(I64 0),(I64 0),(SS []),(.capped [])] 1 [(0,4,a)] fun b c =>
 wCall (env R) (LFE (env R) 3 n0 ro rt) (.func (.func 11) [] []) [t6,b] c fun d e =>
 wExt d 0 fun f =>
 wExt d 1 fun g =>
 wSt (LFE (env R) 3 n0 ro rt) e 4 t9 f fun i =>
 P3_5 R n0 ro rt t0 t6 t7 t8 t9 g t11 i QR) : P3_3 R n0 ro rt t0 t6 t7 t8 t9 t11 s QR :=
  wpc_mp (lv := lv3) (ct := ct3) _ _ _ _ h (by kernel_rfl)
theorem p3_4 {t0 t6 t7 t8 t10 : AV} (h :
 wInt .i64 .add (I64 6) t0 fun a =>
 wO (makeSliceA (env R).P s 32 a a) fun b =>
 wCall (env R) (LFE (env R) 3 n0 ro rt) (.func (.func 11) [] []) [t6,b.1] b.2 fun c d =>
 wExt c 0 fun e =>
 wExt c 1 fun f =>
 wNew d [(I64 0),(I64 0),(SS []),(.capped [])] fun g i =>
 wSt (LFE (env R) 3 n0 ro rt) i 4 g e fun j =>
 P3_6 R n0 ro rt t0 t6 t7 t8 t10 f (I64 0) j QR) : P3_4 R n0 ro rt t0 t6 t7 t8 t10 s QR :=
  wpc_mp (lv := lv3) (ct := ct3) _ _ _ _ h (by kernel_rfl)
theorem p3_5 {t0 t6 t7 t8 t9 t10 t11 : AV} (h :
 wInt .i64 .add t11 (I64 1) fun a =>
 P3_2 R n0 ro rt t0 t6 t7 t8 t9 t10 a s QR) : P3_5 R n0 ro rt t0 t6 t7 t8 t9 t10 t11 s QR :=
  wpc_mp (lv := lv3) (ct := ct3) _ _ _ _ h (by kernel_rfl)
theorem p3_6 {t0 t6 t7 t8 t10 t13 t14 : AV} (h :
 wInt .i64 .lss t14 (I64 4000) fun a =>
 wCond a (
 P3_7 R n0 ro rt t0 t6 t7 t8 t10 t13 t14 s QR) (
 P3_8 R n0 ro rt t0 t6 t7 t8 t10 t13 s QR)) : P3_6 R n0 ro rt t0 t6 t7 t8 t10 t13 t14 s QR :=
  wpl_mp (lv := lv3) (ct := ct3) _ _ _ _ h (by kernel_rfl)
theorem p3_7 {t0 t6 t7 t8 t10 t13 t14 : AV} (h :
 wCall (env R) (LFE (env R) 3 n0 ro rt) (.func (.func 13) [] []) [(SS [68,111,116]),(.capped [])] s fun a b =>
 wCall (env R) (LFE (env R) 3 n0 ro rt) (.func (.func 12) [] []) [t6,a,(.capped [])] b fun c d =>
 wExt c 0 fun e =>
 wExt c 1 fun f =>
 wNew d [(I64 0),(I64 0),(SS []),(.capped [])] fun g i =>
 wSt (LFE (env R) 3 n0 ro rt) i 4 g e fun j =>
 wInt .i64 .neq f (I64 0) fun k =>
 wCond k (
 QR (BB false) j) (
 P3_9 R n0 ro rt t0 t6 t7 t8 t10 t13 t14 j QR)) : P3_7 R n0 ro rt t0 t6 t7 t8 t10 t13 t14 s QR :=
  wpc_mp (lv := lv3) (ct := ct3) _ _ _ _ h (by kernel_rfl)
theorem p3_8 {t0 t6 t7 t8 t10 t13 : AV} (h :
 wCall (env R) (LFE (env R) 3 n0 ro rt) (.func (.func 13) [] []) [(SS [68,111,116]),(.capped [])] s fun a b =>
 wCall (env R) (LFE (env R) 3 n0 ro rt) (.func (.func 12) [] []) [t6,a,(.capped [])] b fun c d =>
 wExt c 0 fun e =>
 wExt c 1 fun f =>
 wNew d [(I64 0),(I64 0),(SS []),(.capped [])] fun g i =>
 wSt (LFE (env R) 3 n0 ro rt) i 4 g e fun j =>
 wInt .i64 .leq t0 (I64 0) fun k =>
 wCond k (
 wInt .i64 .eql t8 (I64 0) fun l =>
 wGK l true j (fun K => wFad j t7 2 fun m => K m j) fun n o =>
 wGK l true o (fun K => wLd (env R) o none n fun p => K p o) fun q u =>
 wGK l true u (fun K => wSlen q fun v => K v u) fun w x =>
 wGK l true x (fun K => K t0 x) fun y z =>
 wGK l true z (fun K => wInt .i64 .add (I64 2000) y fun aa => K aa z) fun ab ac =>
 wGK l true ac (fun K => wInt .i64 .eql w ab fun ad => K ad ac) fun ae af =>
 wPick l ae (BB false) fun ag =>
 wGK ag true af (fun K => K t10 af) fun ah ai =>
 wGK ag true ai (fun K => wInt .i64 .eql ah (I64 0) fun aj => K aj ai) fun ak al =>
 wPick ag ak (BB false) fun am =>
 wGK am true al (fun K => K t13 al) fun an ao =>
 wGK am true ao (fun K => wInt .i64 .eql an (I64 0) fun ap => K ap ao) fun aq ar =>
 wPick am aq (BB false) fun au =>
 wGK au true ar (fun K => K f ar) fun av aw =>
 wGK au true aw (fun K => wInt .i64 .eql av (I64 10) fun ax => K ax aw) fun ay az =>
 wPick au ay (BB false) fun a0 =>
 QR a0 az) (
 P3_10 R n0 ro rt t6 t8 t10 t13 f j QR)) : P3_8 R n0 ro rt t0 t6 t7 t8 t10 t13 s QR :=
  wpc_mp (lv := lv3) (ct := ct3) _ _ _ _ h (by kernel_rfl)
theorem p3_9 {t0 t6 t7 t8 t10 t13 t14 : AV} (h :
 wInt .i64 .add t14 (I64 1) fun a =>
 P3_6 R n0 ro rt t0 t6 t7 t8 t10 t13 a s QR) : P3_9 R n0 ro rt t0 t6 t7 t8 t10 t13 t14 s QR :=
  wpc_mp (lv := lv3) (ct := ct3) _ _ _ _ h (by kernel_rfl)
theorem p3_10 {t6 t8 t10 t13 t18 : AV} (h :
 wInt .i64 .eql t8 (I64 5) fun a =>
 wGK a true s (fun K => K t10 s) fun b c =>
 wGK a true c (fun K => wInt .i64 .eql b (I64 5) fun d => K d c) fun e f =>
 wPick a e (BB false) fun g =>
 wGK g true f (fun K => K t13 f) fun i j =>
 wGK g true j (fun K => wInt .i64 .eql i (I64 5) fun k => K k j) fun l m =>
 wPick g l (BB false) fun n =>
 wGK n true m (fun K => K t18 m) fun o p =>
 wGK n true p (fun K => wInt .i64 .eql o (I64 10) fun q => K q p) fun u v =>
 wPick n u (BB false) fun w =>
 wGK w true v (fun K => K t6 v) fun x y =>
 wGK w true y (fun K => wCall (env R) (LFE (env R) 3 n0 ro rt) (.func (.func 14) [] []) [x] y fun z aa => K z aa) fun ab ac =>
 wGK w true ac (fun K => wInt .i64 .eql ab (I64 4000) fun ad => K ad ac) fun ae af =>
 wPick w ae (BB false) fun ag =>
 QR ag af) : P3_10 R n0 ro rt t6 t8 t10 t13 t18 s QR :=
  wpc_mp (lv := lv3) (ct := ct3) _ _ _ _ h (by kernel_rfl)
theorem e3 {R : RT} {t0 : AV} {u0 : AV} {Post : AV → Prop} (hcl : closeL [] 0 0 [t0] = some [u0]) (h : P3_0 R 0 0 0 u0 ⟨[],[]⟩ (QP Post)) : PureC (env R) 3 [t0] Post :=
  call_rd (fn := Tryz.f3) (body := b3) Tryz.func3 (by kernel_rfl) (by kernel_rfl) (by kernel_rfl) (Nat.le_of_ble_eq_true (by kernel_rfl)) hcl (mpK h (by kernel_rfl))
noncomputable def b12 : Code := Tryz.f12.body.getD .skip
def lv12 (f : Nat) : List Nat := bif Nat.blt f 6 then (
 bif Nat.blt f 3 then (
  bif Nat.blt f 2 then (
   bif Nat.beq f 1 then [0,2,4,6] else []) else (
   bif Nat.beq f 2 then [0,2,4,6,26] else [])) else (
  bif Nat.blt f 4 then (
   bif Nat.beq f 3 then [0,2,4,6] else []) else (
   bif Nat.blt f 5 then (
    bif Nat.beq f 4 then [0,2,4,6,8] else []) else (
    bif Nat.beq f 5 then [0,2,4,6,42] else [])))) else (
 bif Nat.blt f 9 then (
  bif Nat.blt f 7 then (
   bif Nat.beq f 6 then [0,2,4,6] else []) else (
   bif Nat.beq f 7 then [0,2,4,6,44] else [])) else (
  bif Nat.blt f 10 then (
   bif Nat.beq f 9 then [0,2,4,6,49] else []) else (
   bif Nat.blt f 11 then (
    bif Nat.beq f 10 then [0,2,4,6] else []) else (
    bif Nat.beq f 11 then [0,6] else []))))
def ct12 (f : Nat) : Bool := false
def P12_0 (R : RT) (n0 ro rt : Nat) (t0 t1 t2 : AV) (s : Sto) (QR : QT) : Prop := Wp (env R) (LFE (env R) 12 n0 ro rt) 77 [.cell 6 34,.tmp 7] (sub b12 []) [] [(0,t0),(1,t1),(2,t2)] s QR
def P12_1 (R : RT) (n0 ro rt : Nat) (t0 t2 t4 t6 : AV) (s : Sto) (QR : QT) : Prop := Wp (env R) (LFE (env R) 12 n0 ro rt) 77 [.cell 6 34,.tmp 7] (sub b12 [1,1]) [] [(0,t0),(2,t2),(4,t4),(6,t6)] s QR
def P12_2 (R : RT) (n0 ro rt : Nat) (t0 t2 t4 t6 : AV) (s : Sto) (QR : QT) : Prop := Wp (env R) (LFE (env R) 12 n0 ro rt) 77 [.cell 6 34,.tmp 7] (sub b12 [1,1,1,1]) [] [(0,t0),(2,t2),(4,t4),(6,t6)] s QR
def P12_3 (R : RT) (n0 ro rt : Nat) (t0 t2 t4 t6 : AV) (s : Sto) (QR : QT) : Prop := Wp (env R) (LFE (env R) 12 n0 ro rt) 77 [.cell 6 34,.tmp 7] (sub b12 [1,1,1,1,1]) [] [(0,t0),(2,t2),(4,t4),(6,t6)] s QR
theorem p12_0 {t0 t1 t2 : AV} (h :
 wBox s t1 fun a b =>
 wNew b [(I64 0),(I64 0),(SS []),(.capped [])] fun c d =>
 wFad d a 0 fun e =>
 wLd (env R) d none e fun f =>
 wInt .i64 .neq f (I64 2) fun g =>
 wGK g false d (fun K => wFad d a 1 fun i => K i d) fun j k =>
 wGK g false d (fun K => wLd (env R) d none j fun l => K l d) fun m n =>
 wGK g false d (fun K => wCall (env R) (LFE (env R) 12 n0 ro rt) (.func (.func 31) [] []) [m] d fun o p => K o p) fun q u =>
 wPick g (BB true) q fun v =>
 wGK v false u (fun K => K t0 u) fun w x =>
 wGK v false u (fun K => wNil u w fun y => K y u) fun z aa =>
 wGK v false u (fun K => wFad u z 0 fun ab => K ab u) fun ac ad =>
 wGK v false u (fun K => wLd (env R) u none ac fun ae => K ae u) fun af ag =>
 wGK v false u (fun K => wLd (env R) u (some 4) a fun ah => K ah u) fun ai aj =>
 wGK v false u (fun K => wCall (env R) (LFE (env R) 12 n0 ro rt) (.func (.func 32) [] []) [af,ai] u fun ak al => K ak al) fun am an =>
 wGK v false an (fun K => wNot am fun ao => K ao an) fun ap aq =>
 wPick v (BB true) ap fun ar =>
 wCond ar (
 wBuild [(I64 0),(I64 0),(SS []),(.capped [])] [] fun au =>
 wSt (LFE (env R) 12 n0 ro rt) an 4 c au fun av =>
 wLd (env R) av (some 4) c fun aw =>
 QR (.tuple [aw,(I64 4)]) av) (
 P12_1 R n0 ro rt t0 t2 a c an QR)) : P12_0 R n0 ro rt t0 t1 t2 s QR :=
  wpc_mp (lv := lv12) (ct := ct12) _ _ _ _ h (by kernel_rfl)
theorem p12_1 {t0 t2 t4 t6 : AV} (h :
 wNil s t0 fun a =>
 wFad s a 0 fun b =>
 wLd (env R) s none b fun c =>
 wLd (env R) s (some 4) t4 fun d =>
 wCall (env R) (LFE (env R) 12 n0 ro rt) (.func (.func 33) [] []) [c,d] s fun e f =>
 wExt e 0 fun g =>
 wExt e 1 fun i =>
 wCall (env R) (LFE (env R) 12 n0 ro rt) (.func (.func 34) [] []) [t2,g,(.func (.func 35) [t0] [])] f fun j k =>
 wNot j fun l =>
 wCond l (
 wBuild [(I64 0),(I64 0),(SS []),(.capped [])] [] fun m =>
 wSt (LFE (env R) 12 n0 ro rt) k 4 t6 m fun n =>
 wLd (env R) n (some 4) t6 fun o =>
 QR (.tuple [o,(I64 4)]) n) (
 P12_2 R n0 ro rt t0 t2 t4 t6 k QR)) : P12_1 R n0 ro rt t0 t2 t4 t6 s QR :=
  wpc_mp (lv := lv12) (ct := ct12) _ _ _ _ h (by kernel_rfl)
theorem p12_2 {t0 t2 t4 t6 : AV} (h :
 wLd (env R) s (some 4) t4 fun a =>
 wCall (env R) (LFE (env R) 12 n0 ro rt) (.func (.func 30) [] []) [a] s fun b c =>
 wNot b fun d =>
 wCond d (
 wBuild [(I64 0),(I64 0),(SS []),(.capped [])] [] fun e =>
 wSt (LFE (env R) 12 n0 ro rt) c 4 t6 e fun f =>
 wLd (env R) f (some 4) t6 fun g =>
 QR (.tuple [g,(I64 5)]) f) (
 wNil c t0 fun i =>
 wFad c i 1 fun j =>
 wLd (env R) c none j fun k =>
 wLen c k fun l =>
 wInt .i64 .geq l (I64 4000) fun m =>
 wCond m (
 wBuild [(I64 0),(I64 0),(SS []),(.capped [])] [] fun n =>
 wSt (LFE (env R) 12 n0 ro rt) c 4 t6 n fun o =>
 wLd (env R) o (some 4) t6 fun p =>
 QR (.tuple [p,(I64 10)]) o) (
 P12_3 R n0 ro rt t0 t2 t4 t6 c QR))) : P12_2 R n0 ro rt t0 t2 t4 t6 s QR :=
  wpc_mp (lv := lv12) (ct := ct12) _ _ _ _ h (by kernel_rfl)
theorem p12_3 {t0 t2 t4 t6 : AV} (h :
 wNil s t0 fun a =>
 wFad s a 1 fun b =>
 wLd (env R) s none b fun c =>
 wLd (env R) s (some 4) t4 fun d =>
 wCall (env R) (LFE (env R) 12 n0 ro rt) (.func (.func 36) [] []) [d] s fun e f =>
 wCall (env R) (LFE (env R) 12 n0 ro rt) (.func (.func 28) [] []) [t2] f fun g i =>
 wBuild [(I64 0),(SS []),(I64 0),(.capped []),(.capped [])] [(0,4,e),(4,1,g)] fun j =>
 wBsl false i 5 [(I64 0),(SS []),(I64 0),(.capped []),(.capped [])] 1 [(0,5,j)] fun k l =>
(5 = 5 ∧ 5 ≠ 0) ∧ wApp false (LFE (env R) 12 n0 ro rt) i 83 5 80 c k fun m n =>
 wNil n t0 fun o =>
 wFad n o 1 fun p =>
 wSt (LFE (env R) 12 n0 ro rt) n 1 p m fun q =>
(wNil f t0 fun u => eqA u a = true) ∧
(wNil i t0 fun w => eqA w a = true) ∧
(wFad f a 1 fun x => eqA x b = true) ∧
(wFad i a 1 fun y => eqA y b = true) ∧
(wLd (env R) f none b fun z => eqA z c = true) ∧
(wLd (env R) i none b fun aa => eqA aa c = true) ∧
 wNil q t0 fun ab =>
 wFad q ab 1 fun ac =>
 wLd (env R) q none ac fun ad =>
 wLen q ad fun ae =>
 wBuild [(I64 0),(I64 0),(SS []),(.capped [])] [(0,1,(I64 5)),(1,1,ae)] fun af =>
 wSt (LFE (env R) 12 n0 ro rt) q 4 t6 af fun ag =>
 wLd (env R) ag (some 4) t6 fun ah =>
 QR (.tuple [ah,(I64 0)]) ag) : P12_3 R n0 ro rt t0 t2 t4 t6 s QR :=
  wpc_mp (lv := lv12) (ct := ct12) _ _ _ _ h (by kernel_rfl)
theorem m12 {R : RT} {t0 t1 t2 : AV} {L : Lim} {s : Sto} {Post : AV → Sto → Prop} (hn : noIdL [t0,t1,t2] = false) (h : P12_0 R 0 L.ro L.rt t0 t1 t2 s (QM (L.rr 12) s.bs.length Post)) : ∃ v s',Post v s' ∧ CallE (env R) L 12 [t0,t1,t2] s v s' :=
  call_im (fn := Tryz.f12) (body := b12) Tryz.func12 (by kernel_rfl) (by kernel_rfl) (by kernel_rfl) (Nat.le_of_ble_eq_true (by kernel_rfl)) hn (mpK h (by kernel_rfl))
noncomputable def b8 : Code := Tryz.f8.body.getD .skip
def lv8 (f : Nat) : List Nat := bif Nat.blt f 3 then (
 bif Nat.blt f 2 then (
  bif Nat.beq f 1 then [0,1] else []) else (
  bif Nat.beq f 2 then [0,1] else [])) else (
 bif Nat.blt f 4 then (
  bif Nat.beq f 3 then [0,1,9] else []) else (
  bif Nat.beq f 4 then [0] else []))
def ct8 (f : Nat) : Bool := false
def P8_0 (R : RT) (n0 ro rt : Nat) (t0 t1 : AV) (s : Sto) (QR : QT) : Prop := Wp (env R) (LFE (env R) 8 n0 ro rt) 14 [.tmp 4] (sub b8 []) [] [(0,t0),(1,t1)] s QR
def P8_1 (R : RT) (n0 ro rt : Nat) (t0 : AV) (s : Sto) (QR : QT) : Prop := Wp (env R) (LFE (env R) 8 n0 ro rt) 14 [.tmp 4] (sub b8 [1,1,1]) [] [(0,t0)] s QR
theorem p8_0 {t0 t1 : AV} (h :
 wInt .i64 .rem t0 t1 fun a =>
 wInt .i64 .lss a (I64 0) fun b =>
 wCond b (
 wInt .i64 .add a t1 fun c =>
 P8_1 R n0 ro rt c s QR) (
 P8_1 R n0 ro rt a s QR)) : P8_0 R n0 ro rt t0 t1 s QR :=
  wpc_mp (lv := lv8) (ct := ct8) _ _ _ _ h (by kernel_rfl)
theorem p8_1 {t0 : AV} (h :
 QR t0 s) : P8_1 R n0 ro rt t0 s QR :=
  wpc_mp (lv := lv8) (ct := ct8) _ _ _ _ h (by kernel_rfl)
theorem e8 {R : RT} {t0 t1 : AV} {u0 u1 : AV} {Post : AV → Prop} (hcl : closeL [] 0 0 [t0,t1] = some [u0,u1]) (h : P8_0 R 0 0 0 u0 u1 ⟨[],[]⟩ (QP Post)) : PureC (env R) 8 [t0,t1] Post :=
  call_rd (fn := Tryz.f8) (body := b8) Tryz.func8 (by kernel_rfl) (by kernel_rfl) (by kernel_rfl) (Nat.le_of_ble_eq_true (by kernel_rfl)) hcl (mpK h (by kernel_rfl))
noncomputable def b10 : Code := Tryz.f10.body.getD .skip
def lv10 (f : Nat) : List Nat := bif Nat.blt f 4 then (
 bif Nat.blt f 2 then (
  bif Nat.beq f 1 then [0,1] else []) else (
  bif Nat.blt f 3 then (
   bif Nat.beq f 2 then [0,1,5] else []) else (
   bif Nat.beq f 3 then [0,1,5,6] else []))) else (
 bif Nat.blt f 5 then (
  bif Nat.beq f 4 then [0,1,5,6] else []) else (
  bif Nat.blt f 6 then (
   bif Nat.beq f 5 then [0,1,5,6] else []) else (
   bif Nat.beq f 6 then [5] else [])))
def ct10 (f : Nat) : Bool := false
def P10_0 (R : RT) (n0 ro rt : Nat) (t0 t1 : AV) (s : Sto) (QR : QT) : Prop := Wp (env R) (LFE (env R) 10 n0 ro rt) 23 [.tmp 4] (sub b10 []) [] [(0,t0),(1,t1)] s QR
def P10_1 (R : RT) (n0 ro rt : Nat) (t0 t1 t5 t6 : AV) (s : Sto) (QR : QT) : Prop := Wp (env R) (LFE (env R) 10 n0 ro rt) 23 [.tmp 4] (.loop (sub b10 [1,1,0,1,0,0])) [.blk 0,.seq (sub b10 [1,1,1])] [(0,t0),(1,t1),(5,t5),(6,t6)] s QR
def P10_2 (R : RT) (n0 ro rt : Nat) (t0 t1 t5 t6 : AV) (s : Sto) (QR : QT) : Prop := Wp (env R) (LFE (env R) 10 n0 ro rt) 23 [.tmp 4] (sub b10 [1,1,0,1,0,0,1]) [.loop (sub b10 [1,1,0,1,0,0]),.blk 0,.seq (sub b10 [1,1,1])] [(0,t0),(1,t1),(5,t5),(6,t6)] s QR
def P10_3 (R : RT) (n0 ro rt : Nat) (t5 : AV) (s : Sto) (QR : QT) : Prop := Wp (env R) (LFE (env R) 10 n0 ro rt) 23 [.tmp 4] (sub b10 [1,1,1]) [] [(5,t5)] s QR
def P10_4 (R : RT) (n0 ro rt : Nat) (t0 t1 t5 t6 : AV) (s : Sto) (QR : QT) : Prop := Wp (env R) (LFE (env R) 10 n0 ro rt) 23 [.tmp 4] (sub b10 [1,1,0,1,0,0,1,1]) [.loop (sub b10 [1,1,0,1,0,0]),.blk 0,.seq (sub b10 [1,1,1])] [(0,t0),(1,t1),(5,t5),(6,t6)] s QR
theorem p10_0 {t0 t1 : AV} (h :
 wSlen t0 fun a =>
 wAnyT (env R) (LFE (env R) 10 n0 ro rt) s (lkE [(9,t1),(8,a),(7,t0),(4,(SS [])),(0,t0),(1,t1)]) (opOf (sub b10 [1,0]) 3) fun b c =>
 wInt .i64 .mul a b fun d =>
 wO (makeSliceA (env R).P c 70 (I64 0) d) fun e =>
 P10_1 R n0 ro rt t0 t1 e.1 (I64 0) e.2 QR) : P10_0 R n0 ro rt t0 t1 s QR :=
  wpc_mp (lv := lv10) (ct := ct10) _ _ _ _ h (by kernel_rfl)
theorem p10_1 {t0 t1 t5 t6 : AV} (h :
 wInt .i64 .lss t6 t1 fun a =>
 wCond a (
 P10_2 R n0 ro rt t0 t1 t5 t6 s QR) (
 P10_3 R n0 ro rt t5 s QR)) : P10_1 R n0 ro rt t0 t1 t5 t6 s QR :=
  wpl_mp (lv := lv10) (ct := ct10) _ _ _ _ h (by kernel_rfl)
theorem p10_2 {t0 t1 t5 t6 : AV} (h :
(1 = 1 ∧ 1 ≠ 0) ∧ wApp false (LFE (env R) 10 n0 ro rt) s 5 1 1 t5 t0 fun a b =>
 P10_4 R n0 ro rt t0 t1 a t6 b QR) : P10_2 R n0 ro rt t0 t1 t5 t6 s QR :=
  wpc_mp (lv := lv10) (ct := ct10) _ _ _ _ h (by kernel_rfl)
theorem p10_3 {t5 : AV} (h :
 wO (sliceBytes s t5) fun a =>
 QR (.pv (.sc (.string ⟨a.toArray⟩))) s) : P10_3 R n0 ro rt t5 s QR :=
  wpc_mp (lv := lv10) (ct := ct10) _ _ _ _ h (by kernel_rfl)
theorem p10_4 {t0 t1 t5 t6 : AV} (h :
 wInt .i64 .add t6 (I64 1) fun a =>
 P10_1 R n0 ro rt t0 t1 t5 a s QR) : P10_4 R n0 ro rt t0 t1 t5 t6 s QR :=
  wpc_mp (lv := lv10) (ct := ct10) _ _ _ _ h (by kernel_rfl)
theorem e10 {R : RT} {t0 t1 : AV} {u0 u1 : AV} {Post : AV → Prop} (hcl : closeL [] 0 0 [t0,t1] = some [u0,u1]) (h : P10_0 R 0 0 0 u0 u1 ⟨[],[]⟩ (QP Post)) : PureC (env R) 10 [t0,t1] Post :=
  call_rd (fn := Tryz.f10) (body := b10) Tryz.func10 (by kernel_rfl) (by kernel_rfl) (by kernel_rfl) (Nat.le_of_ble_eq_true (by kernel_rfl)) hcl (mpK h (by kernel_rfl))
noncomputable def b14 : Code := Tryz.f14.body.getD .skip
def lv14 (f : Nat) : List Nat := bif Nat.beq f 1 then [0] else []
def ct14 (f : Nat) : Bool := false
def P14_0 (R : RT) (n0 ro rt : Nat) (t0 : AV) (s : Sto) (QR : QT) : Prop := Wp (env R) (LFE (env R) 14 n0 ro rt) 8 [.tmp 2] (sub b14 []) [] [(0,t0)] s QR
theorem p14_0 {t0 : AV} (h :
 wNil s t0 fun a =>
 wFad s a 1 fun b =>
 wLd (env R) s none b fun c =>
 wLen s c fun d =>
 QR d s) : P14_0 R n0 ro rt t0 s QR :=
  wpc_mp (lv := lv14) (ct := ct14) _ _ _ _ h (by kernel_rfl)
theorem m14 {R : RT} {t0 : AV} {L : Lim} {s : Sto} {Post : AV → Sto → Prop} (hn : noIdL [t0] = false) (h : P14_0 R 0 L.ro L.rt t0 s (QM (L.rr 14) s.bs.length Post)) : ∃ v s',Post v s' ∧ CallE (env R) L 14 [t0] s v s' :=
  call_im (fn := Tryz.f14) (body := b14) Tryz.func14 (by kernel_rfl) (by kernel_rfl) (by kernel_rfl) (Nat.le_of_ble_eq_true (by kernel_rfl)) hn (mpK h (by kernel_rfl))
noncomputable def b9 : Code := Tryz.f9.body.getD .skip
def lv9 (f : Nat) : List Nat := bif Nat.blt f 6 then (
 bif Nat.blt f 3 then (
  bif Nat.beq f 1 then [0,4,5,6] else []) else (
  bif Nat.blt f 4 then (
   bif Nat.beq f 3 then [0,4,5,6,8,9] else []) else (
   bif Nat.beq f 4 then [0,4,5,6,8,9,21] else []))) else (
 bif Nat.blt f 8 then (
  bif Nat.beq f 6 then [0,4,5,6,8,9,28] else []) else (
  bif Nat.blt f 10 then (
   bif Nat.beq f 8 then [0,4,5,6,8,50] else []) else (
   bif Nat.beq f 10 then [4,5,6,8,68] else [])))
def ct9 (f : Nat) : Bool := false
def P9_0 (R : RT) (n0 ro rt : Nat) (t0 t1 t2 : AV) (s : Sto) (QR : QT) : Prop := Wp (env R) (LFE (env R) 9 n0 ro rt) 82 [.cell 6 34,.tmp 7] (sub b9 []) [] [(0,t0),(1,t1),(2,t2)] s QR
theorem p9_0 {t0 t1 t2 : AV} (h :
 wBox s t1 fun a b =>
 wBox b t2 fun c d =>
 wNew d [(I64 0),(I64 0),(SS []),(.capped [])] fun e f =>
 wCall (env R) (LFE (env R) 9 n0 ro rt) (.func (.func 25) [] []) [] f fun g i =>
 wLook i (.int .i64) (.agg [(I64 0),(.pv (.sc .nilFunc))]) g t0 true fun j =>
 wExt j 0 fun k =>
 wExt j 1 fun l =>
 wNew i [(I64 0),(.pv (.sc .nilFunc))] fun m n =>
 wSt (LFE (env R) 9 n0 ro rt) n 2 m k fun o =>
 wInt .i64 .eql t0 (I64 7) fun p =>
 wCond p (
 wLd (env R) o (some 4) a fun q =>
 wLd (env R) o (some 4) c fun u =>
 wCall (env R) (LFE (env R) 9 n0 ro rt) (.func (.func 27) [] []) [q,u] o fun v w =>
 wCall (env R) (LFE (env R) 9 n0 ro rt) (.func (.func 26) [] []) [v] w fun x y =>
 wSt (LFE (env R) 9 n0 ro rt) y 4 e x fun z =>
 wLd (env R) z (some 4) e fun aa =>
 QR (.tuple [aa,(I64 0)]) z) (
 wInt .i64 .eql t0 (I64 5) fun ab =>
 wGK ab true o (fun K => wFad o a 0 fun ac => K ac o) fun ad ae =>
 wGK ab true ae (fun K => wLd (env R) ae none ad fun af => K af ae) fun ag ah =>
 wGK ab true ah (fun K => wInt .i64 .eql ag (I64 2) fun ai => K ai ah) fun aj ak =>
 wPick ab aj (BB false) fun al =>
 wGK al true ak (fun K => wFad ak a 1 fun am => K am ak) fun an ao =>
 wGK al true ao (fun K => wLd (env R) ao none an fun ap => K ap ao) fun aq ar =>
 wGK al true ar (fun K => wInt .i64 .eql aq (I64 0) fun au => K au ar) fun av aw =>
 wGK al true aw (fun K => K av aw) fun ax ay =>
 wGK ax false ay (fun K => wFad ay a 1 fun az => K az ay) fun a0 a1 =>
 wGK ax false a1 (fun K => wLd (env R) a1 none a0 fun a2 => K a2 a1) fun a3 a7 =>
 wGK ax false a7 (fun K => wInt .i64 .eql a3 (I64 1) fun a9 => K a9 a7) fun ba bb =>
 wGK al true bb (fun K => wPick ax (BB true) ba fun bc => K bc bb) fun bd be =>
 wPick al bd (BB false) fun bf =>
 wCond bf (
 wFad be a 1 fun bg =>
 wLd (env R) be none bg fun bh =>
 wInt .i64 .eql bh (I64 0) fun bi =>
 wCall (env R) (LFE (env R) 9 n0 ro rt) (.func (.func 26) [] []) [bi] be fun bj bk =>
 wSt (LFE (env R) 9 n0 ro rt) bk 4 e bj fun bl =>
 wLd (env R) bl (some 4) e fun bm =>
 QR (.tuple [bm,(I64 0)]) bl) (
 wNot l fun bn =>
 wGK bn false be (fun K => wFad be a 0 fun bo => K bo be) fun bp bq =>
 wGK bn false bq (fun K => wLd (env R) bq none bp fun br => K br bq) fun bs bt =>
 wGK bn false bt (fun K => wFad bt m 0 fun bu => K bu bt) fun bv bw =>
 wGK bn false bw (fun K => wLd (env R) bw none bv fun bx => K bx bw) fun bz b0 =>
 wGK bn false b0 (fun K => wInt .i64 .neq bs bz fun b1 => K b1 b0) fun b2 b3 =>
 wPick bn (BB true) b2 fun b4 =>
 wGK b4 false b3 (fun K => wFad b3 c 0 fun b5 => K b5 b3) fun b6 b7 =>
 wGK b4 false b7 (fun K => wLd (env R) b7 none b6 fun b8 => K b8 b7) fun b9 ca =>
 wGK b4 false ca (fun K => wFad ca m 0 fun cb => K cb ca) fun cc cd =>
 wGK b4 false cd (fun K => wLd (env R) cd none cc fun ce => K ce cd) fun cf cg =>
 wGK b4 false cg (fun K => wInt .i64 .neq b9 cf fun ch => K ch cg) fun ci cj =>
 wPick b4 (BB true) ci fun ck =>
 wCond ck (
 wBuild [(I64 0),(I64 0),(SS []),(.capped [])] [] fun cl =>
 wSt (LFE (env R) 9 n0 ro rt) cj 4 e cl fun cm =>
 wLd (env R) cm (some 4) e fun cn =>
 QR (.tuple [cn,(I64 3)]) cm) (
 wInt .i64 .eql t0 (I64 6) fun co =>
 wGK co true cj (fun K => wFad cj a 2 fun cp => K cp cj) fun cq cr =>
 wGK co true cr (fun K => wLd (env R) cr none cq fun cs => K cs cr) fun cu cv =>
 wGK co true cv (fun K => wSlen cu fun cw => K cw cv) fun cx cy =>
 wGK co true cy (fun K => wFad cy c 2 fun cz => K cz cy) fun c0 c1 =>
 wGK co true c1 (fun K => wLd (env R) c1 none c0 fun c2 => K c2 c1) fun c3 c4 =>
 wGK co true c4 (fun K => wSlen c3 fun c5 => K c5 c4) fun c6 c7 =>
 wGK co true c7 (fun K => wInt .i64 .add cx c6 fun c8 => K c8 c7) fun c9 da =>
 wGK co true da (fun K => wInt .i64 .gtr c9 (I64 2000) fun db => K db da) fun dc dd =>
 wPick co dc (BB false) fun de =>
 wCond de (
 wBuild [(I64 0),(I64 0),(SS []),(.capped [])] [] fun df =>
 wSt (LFE (env R) 9 n0 ro rt) dd 4 e df fun dg =>
 wLd (env R) dg (some 4) e fun dh =>
 QR (.tuple [dh,(I64 5)]) dg) (
 wFad dd m 1 fun di =>
 wLd (env R) dd none di fun dj =>
 wLd (env R) dd (some 4) a fun dk =>
 wLd (env R) dd (some 4) c fun dl =>
 wCall (env R) (LFE (env R) 9 n0 ro rt) dj [dk,dl] dd fun dm dn =>
 wSt (LFE (env R) 9 n0 ro rt) dn 4 e dm fun dp =>
 wLd (env R) dp (some 4) e fun dq =>
 QR (.tuple [dq,(I64 0)]) dp))))) : P9_0 R n0 ro rt t0 t1 t2 s QR :=
  wpc_mp (lv := lv9) (ct := ct9) _ _ _ _ h (by kernel_rfl)
theorem e9 {R : RT} {t0 t1 t2 : AV} {u0 u1 u2 : AV} {Post : AV → Prop} (hcl : closeL [] 0 0 [t0,t1,t2] = some [u0,u1,u2]) (h : P9_0 R 0 0 0 u0 u1 u2 ⟨[],[]⟩ (QP Post)) : PureC (env R) 9 [t0,t1,t2] Post :=
  call_rd (fn := Tryz.f9) (body := b9) Tryz.func9 (by kernel_rfl) (by kernel_rfl) (by kernel_rfl) (Nat.le_of_ble_eq_true (by kernel_rfl)) hcl (mpK h (by kernel_rfl))
noncomputable def b25 : Code := Tryz.f25.body.getD .skip
def lv25 (f : Nat) : List Nat := bif Nat.beq f 1 then [] else []
def ct25 (f : Nat) : Bool := false
def P25_0 (R : RT) (n0 ro rt : Nat) (s : Sto) (QR : QT) : Prop := Wp (env R) (LFE (env R) 25 n0 ro rt) 8 [.tmp 0] (sub b25 []) [] [] s QR
theorem p25_0 (h :
 wMk s fun a b =>
 wBuild [(I64 0),(.pv (.sc .nilFunc))] [(0,1,(I64 1)),(1,1,(.func (.func 55) [] []))] fun c =>
 wIns1 (LFE (env R) 25 n0 ro rt) b (.int .i64) a (I64 1) c fun d =>
 wBuild [(I64 0),(.pv (.sc .nilFunc))] [(0,1,(I64 1)),(1,1,(.func (.func 57) [] []))] fun e =>
 wIns1 (LFE (env R) 25 n0 ro rt) d (.int .i64) a (I64 2) e fun f =>
 wBuild [(I64 0),(.pv (.sc .nilFunc))] [(0,1,(I64 1)),(1,1,(.func (.func 58) [] []))] fun g =>
 wIns1 (LFE (env R) 25 n0 ro rt) f (.int .i64) a (I64 3) g fun i =>
 wBuild [(I64 0),(.pv (.sc .nilFunc))] [(0,1,(I64 1)),(1,1,(.func (.func 59) [] []))] fun j =>
 wIns1 (LFE (env R) 25 n0 ro rt) i (.int .i64) a (I64 4) j fun k =>
 wBuild [(I64 0),(.pv (.sc .nilFunc))] [(0,1,(I64 3)),(1,1,(.func (.func 60) [] []))] fun l =>
 wIns1 (LFE (env R) 25 n0 ro rt) k (.int .i64) a (I64 6) l fun m =>
 QR a m) : P25_0 R n0 ro rt  s QR :=
  wpc_mp (lv := lv25) (ct := ct25) _ _ _ _ h (by kernel_rfl)
theorem m25 {R : RT} {L : Lim} {s : Sto} {Post : AV → Sto → Prop} (h : P25_0 R L.n0 L.ro L.rt  s Post) : ∃ v s',Post v s' ∧ CallE (env R) L 25 [] s v s' :=
  call_esc (fn := Tryz.f25) (body := b25) Tryz.func25 (by kernel_rfl) (by kernel_rfl) (by kernel_rfl) (Nat.le_of_ble_eq_true (by kernel_rfl)) (mpK h (by kernel_rfl))
noncomputable def b60 : Code := Tryz.f60.body.getD .skip
def lv60 (f : Nat) : List Nat := bif Nat.beq f 1 then [2,3,4] else []
def ct60 (f : Nat) : Bool := false
def P60_0 (R : RT) (n0 ro rt : Nat) (t0 t1 : AV) (s : Sto) (QR : QT) : Prop := Wp (env R) (LFE (env R) 60 n0 ro rt) 11 [.cell 4 34] (sub b60 []) [] [(0,t0),(1,t1)] s QR
theorem p60_0 {t0 t1 : AV} (h :
 wBox s t0 fun a b =>
 wBox b t1 fun c d =>
 wNew d [(I64 0),(I64 0),(SS []),(.capped [])] fun e f =>
 wFad f a 2 fun g =>
 wLd (env R) f none g fun i =>
 wFad f c 2 fun j =>
 wLd (env R) f none j fun k =>
 wStr .add i k fun l =>
 wBuild [(I64 0),(I64 0),(SS []),(.capped [])] [(0,1,(I64 3)),(2,1,l)] fun m =>
 wSt (LFE (env R) 60 n0 ro rt) f 4 e m fun n =>
 wLd (env R) n (some 4) e fun o =>
 QR o n) : P60_0 R n0 ro rt t0 t1 s QR :=
  wpc_mp (lv := lv60) (ct := ct60) _ _ _ _ h (by kernel_rfl)
theorem e60 {R : RT} {t0 t1 : AV} {Post : AV → Prop} (hn : noIdL [t0,t1] = true) (h : P60_0 R 0 0 0 t0 t1 ⟨[],[]⟩ (QP Post)) : PureC (env R) 60 [t0,t1] Post :=
  call_imp (fn := Tryz.f60) (body := b60) Tryz.func60 (by kernel_rfl) (by kernel_rfl) (by kernel_rfl) (Nat.le_of_ble_eq_true (by kernel_rfl)) hn (mpK h (by kernel_rfl))
end Go.Proofs.YtpmafnbhkhdaiaaGreatDoor
