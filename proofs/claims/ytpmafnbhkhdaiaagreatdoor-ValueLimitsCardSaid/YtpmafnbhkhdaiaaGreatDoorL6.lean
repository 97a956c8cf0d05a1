/-
  ValueLimits: MakeTuple, by evaluation.
-/
import Derived.Test.YtpmafnbhkhdaiaaGreatDoorL5
set_option linter.unusedSimpArgs false
set_option linter.unusedVariables false
namespace Go.Proofs.YtpmafnbhkhdaiaaGreatDoor
open Go.Tel
def vp : Nat → List PV
  | 0 => [.sc (.int .i64 4), .sc (.int .i64 0), .sc (.string ⟨[].toArray⟩), .list []]
  | i + 1 => [.sc (.int .i64 4), .sc (.int .i64 0), .sc (.string ⟨[].toArray⟩), .list [vp i]]
def vc : Nat → List AV
  | 0 => [I64 4, I64 0, SS [], .capped []]
  | i + 1 => [I64 4, I64 0, SS [], .pv (.list [vp i])]
abbrev rB (k : Int) (w : List UInt8) : List AV := [I64 k, I64 0, SS w, .capped []]
def zs : Nat → List AV
  | 0 => []
  | n + 1 => I64 0 :: I64 0 :: SS [] :: .capped [] :: zs n
def zp : Nat → List (List PV)
  | 0 => []
  | n + 1 => [.sc (.int .i64 0), .sc (.int .i64 0), .sc (.string ⟨[].toArray⟩), .list []] :: zp n
abbrev S6 (k : Int) (w : List UInt8) (C : List AV) : Sto := ⟨[hB0, hB1, hB2, [.ptr 1 0, .capped []], rB k w, C], tsH⟩
abbrev S7 (k : Int) (w : List UInt8) (C Z : List AV) : Sto := ⟨[hB0, hB1, hB2, [.ptr 1 0, .capped []], rB k w, C, Z], tsH⟩
section
variable (R : Nat → Option (List PV)) (k : Int) (w : List UInt8)
theorem mk0_ev : callN (env R) 400 (L3 R) 11 [.ptr 3 0, .capped [vp 0]] (S6 k w (vc 0)) = some (.tuple [.agg (vc 1), I64 0], S6 k w (vc 0)) := by kernel_rfl
theorem mk1_ev : callN (env R) 400 (L3 R) 11 [.ptr 3 0, .capped [vp 1]] (S6 k w (vc 1)) = some (.tuple [.agg (vc 2), I64 0], S6 k w (vc 1)) := by kernel_rfl
theorem mk2_ev : callN (env R) 400 (L3 R) 11 [.ptr 3 0, .capped [vp 2]] (S6 k w (vc 2)) = some (.tuple [.agg (vc 3), I64 0], S6 k w (vc 2)) := by kernel_rfl
theorem mk3_ev : callN (env R) 400 (L3 R) 11 [.ptr 3 0, .capped [vp 3]] (S6 k w (vc 3)) = some (.tuple [.agg (vc 4), I64 0], S6 k w (vc 3)) := by kernel_rfl
theorem mk4_ev : callN (env R) 400 (L3 R) 11 [.ptr 3 0, .capped [vp 4]] (S6 k w (vc 4)) = some (.tuple [.agg (vc 5), I64 0], S6 k w (vc 4)) := by kernel_rfl
theorem mk5_ev : callN (env R) 400 (L3 R) 11 [.ptr 3 0, .capped [vp 5]] (S6 k w (vc 5)) = some (.tuple [zeroV, I64 5], S6 k w (vc 5)) := by kernel_rfl
theorem wide5_ev : callN (env R) 400 (L3 R) 11 [.ptr 3 0, .ref 6 0 5 4] (S7 k w (vc 4) (zs 5)) = some (.tuple [.agg [I64 4, I64 0, SS [], .pv (.list (zp 5))], I64 0], S7 k w (vc 4) (zs 5)) := by kernel_rfl
theorem wide6_ev : callN (env R) 400 (L3 R) 11 [.ptr 3 0, .ref 6 0 6 4] (S7 k w (vc 5) (zs 6)) = some (.tuple [.agg [I64 4, I64 0, SS [], .pv (.list (zp 6))], I64 0], S7 k w (vc 5) (zs 6)) := by kernel_rfl
theorem wide7_ev : callN (env R) 400 (L3 R) 11 [.ptr 3 0, .ref 6 0 7 4] (S7 k w V4 (zs 7)) = some (.tuple [zeroV, I64 5], S7 k w V4 (zs 7)) := by kernel_rfl
theorem slice5_ev (C : List AV) : makeSliceA (env R).P (S6 k w C) 32 (I64 5) (I64 5) = some (.ref 6 0 5 4, S7 k w C (zs 5)) := by kernel_rfl
theorem slice6_ev (C : List AV) : makeSliceA (env R).P (S6 k w C) 32 (I64 6) (I64 6) = some (.ref 6 0 6 4, S7 k w C (zs 6)) := by kernel_rfl
theorem slice7_ev (C : List AV) : makeSliceA (env R).P (S6 k w C) 32 (I64 7) (I64 7) = some (.ref 6 0 7 4, S7 k w C (zs 7)) := by kernel_rfl
theorem named_ev : pureV (env R) 40 13 [SS [68, 111, 116], .capped []] = some dotV := by kernel_rfl
theorem named_spec : PureC (env R) 13 [SS [68, 111, 116], .capped []] fun r => r = dotV := pure_ev (by kernel_rfl) (by kernel_rfl) rfl (named_ev R)
end
end Go.Proofs.YtpmafnbhkhdaiaaGreatDoor
