/-
  What the evaluator asks of the program: each fact by the kernel.
-/
import Derived.Test.YteaholhenmneoaaGreatDoorClone
namespace Go.Proofs.YteaholhenmneoaaGreatDoor
open Go.Tel

theorem plansEv : allPlans env = true := by kernel_rfl
theorem namesEv : (Tryz.prog.funcs.toList.all fun fn => fn.body.isNone || !(fn.name == "runtime.NumGoroutine")) = true := by kernel_rfl
theorem mixEv : Tryz.prog.follows .mixedOrders = true := by kernel_rfl
theorem body99 : Tryz.f99.body.isSome = true := by kernel_rfl

theorem good : Tel.Good env := by
  refine Tel.Good.of_checks plansEv namesEv mixEv (fun f hf => ?_)
  have h99 : f = 99 := by
    have h : cloneT f = true := hf
    unfold cloneT at h
    cases hb : Nat.beq f 99 with
    | true => exact Nat.eq_of_beq_eq_true hb
    | false => rw [hb] at h; simp at h
  subst h99
  exact ⟨⟨_, Tryz.func99, body99⟩, clone99⟩

end Go.Proofs.YteaholhenmneoaaGreatDoor
