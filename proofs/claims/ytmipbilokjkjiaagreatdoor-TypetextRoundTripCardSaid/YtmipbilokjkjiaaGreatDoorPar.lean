/-
  sexpr.Parse of a text without a fault, by what the parser's own function does.
-/
import Derived.Test.YtmipbilokjkjiaaGreatDoorTab
import Derived.WalkKit
import Derived.Defers
import Derived.Recover
set_option linter.unusedSimpArgs false
set_option linter.unusedVariables false
namespace Go.Proofs.YtmipbilokjkjiaaGreatDoor
open Go.Tel Go.RowKit
set_option maxHeartbeats 1000000 in
set_option maxRecDepth 100000 in
theorem parse_idle (p q : Addr) (w : World) :
    CallsD Tryz.prog 65 #[.pointer (some p), .pointer (some q)] .returning w fun e u' w' => e = .returned (.tuple #[]) ∧ u' = .returning ∧ w' = w := by
  refine callsD_of_wpS Tryz.func65 rfl fun c₀ cs hu => ?_
  apply wpS_seq
  apply wpS_region
  simp [wpOpsS, go_sem, recoverD, hu, Tryz.ntmps65, Exit.thenS]
  refine wpS_of_wp ?_
  go_wp2
  cases c₀
  simp_all [bodyPostS, results, Tryz.results65]
set_option maxHeartbeats 4000000 in
set_option maxRecDepth 100000 in
theorem parse_run (w : World) (b : ByteArray) (R : World → Value → Prop)
    (hall : Calls Tryz.prog 66 #[.pointer (some ⟨w.heap.size + 1 + 1 + 1, 0, none⟩)]
      ((((w.alloc (Obj.cells #[Value.slice none 0 0] 53)).alloc (Obj.cells #[Value.int IntKind.i64 0, Value.int IntKind.i64 0] 35)).alloc
        (Obj.cells #[Value.int IntKind.i64 0, Value.string { data := #[] }, Value.slice none 0 0, Value.int IntKind.i64 0] 55)).alloc
        (Obj.cells #[Value.string b, Value.int IntKind.i64 0, Value.slice (some { block := w.heap.size + 1 + 1, off := 0 }) 1 1] 114))
      fun e W2 => e = .returned (.tuple #[]) ∧ ∃ ob n cap na nl nc, 0 < n ∧ n ≤ cap ∧ W2.cell? ⟨w.heap.size + 1 + 1 + 1, 2, none⟩ = some (.slice (some ⟨ob, 0, none⟩) n cap) ∧ W2.cell? ⟨ob, 2, none⟩ = some (.slice na nl nc) ∧
        W2.heap[w.heap.size]? = some (.cells #[.slice none 0 0] 53 (0, 0)) ∧ W2.heap[w.heap.size + 1]? = some (.cells #[.int .i64 0, .int .i64 0] 35 (0, 0)) ∧ R W2 (.slice na nl nc)) :
    Calls Tryz.prog 39 #[.string b] w fun e' w' => ∃ W2 na nl nc, R W2 (.slice na nl nc) ∧ e' = .returned (.tuple #[.slice na nl nc, .agg #[.int .i64 0, .int .i64 0]]) ∧ W2.heap[w.heap.size]? = some (.cells #[.slice none 0 0] 53 (0, 0)) ∧ W2.heap[w.heap.size + 1]? = some (.cells #[.int .i64 0, .int .i64 0] 35 (0, 0)) ∧
      w' = ((W2.setCell ⟨w.heap.size, 0, none⟩ (.slice na nl nc)).setCell ⟨w.heap.size + 1, 0, none⟩ (.int .i64 0)).setCell ⟨w.heap.size + 1, 1, none⟩ (.int .i64 0) := by
  have hmf : ∀ (fn : Fn) (first cap : Array Value) (w : World), (Instr.makeFunc fn first cap).run Tryz.prog w = .ok (.func fn first cap) w := fun _ _ _ _ => rfl
  go_enter_defers Tryz.func39, Tryz.ntmps39
  go_wp2_with fail
  refine hall.mono ?_
  rintro e W2 ⟨rfl, ob, n, cap, na, nl, nc, hn0, hnc, hc1, hc2, hh1, hh2, hR⟩
  have k1 : W2.cell? ⟨w.heap.size, 0, none⟩ = some (.slice none 0 0) := by simp [World.cell?, hh1]
  have k2 : W2.cell? ⟨w.heap.size + 1, 0, none⟩ = some (.int .i64 0) := by simp [World.cell?, hh2]
  have k3 : W2.cell? ⟨w.heap.size + 1, 1, none⟩ = some (.int .i64 0) := by simp [World.cell?, hh2]
  have z1 : W2.frozen? ⟨w.heap.size, 0, none⟩ = false := by simp [World.frozen?, hh1]
  have z2 : W2.frozen? ⟨w.heap.size + 1, 0, none⟩ = false := by simp [World.frozen?, hh2]
  have z3 : W2.frozen? ⟨w.heap.size + 1, 1, none⟩ = false := by simp [World.frozen?, hh2]
  go_wp2
  refine leaves_cons (f := 65) (args := #[.pointer (some ⟨w.heap.size, 0, none⟩), .pointer (some ⟨w.heap.size + 1, 0, none⟩)]) (by simp) (by simp [go_sem]) ?_
  refine (parse_idle _ _ _).mono ?_
  rintro e u' w'' ⟨rfl, rfl, rfl⟩
  have d1 : w.heap.size ≠ w.heap.size + 1 := by omega
  refine ⟨.tuple #[.slice na nl nc, .agg #[.int .i64 0, .int .i64 0]], ?_, W2, na, nl, nc, hR, rfl, hh1, hh2, rfl⟩
  simp [results, Tryz.results39, go_sem, k1, k2, k3]
theorem parseBody : Tryz.f39.body.isSome = true := by kernel_rfl
theorem parseName : (Tryz.f39.name == "runtime.NumGoroutine") = false := by kernel_rfl
theorem parC : ParC Tryz.prog 39 66 53 35 55 114 :=
  ⟨⟨_, Tryz.func39, parseBody, parseName⟩, fun w b R h => parse_run w b R h⟩
end Go.Proofs.YtmipbilokjkjiaaGreatDoor
