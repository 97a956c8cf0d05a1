/-
  What the evaluator asks of the program: each fact by the kernel.
-/
import Derived.Test.YtedmfigcajdkbaaGreatDoorClone
namespace Go.Proofs.YtedmfigcajdkbaaGreatDoor
open Go.Tel

theorem plansEv : allPlans env = true := by kernel_rfl
theorem namesEv : (Tryz.prog.funcs.toList.all fun fn => fn.body.isNone || !(fn.name == "runtime.NumGoroutine")) = true := by kernel_rfl
theorem mixEv : Tryz.prog.follows .mixedOrders = true := by kernel_rfl
theorem body109 : Tryz.f109.body.isSome = true := by kernel_rfl

theorem good : Tel.Good env := by
  refine Tel.Good.of_checks plansEv namesEv mixEv (fun f hf => ?_)
  have h : cloneT f = true := hf
  have hs : f = 109 := by
    by_cases e : f = 109
    · exact e
    have h109 : Nat.beq f 109 = false := beq_ne e
    unfold cloneT at h
    simp [h109] at h
  rcases hs with rfl
  · exact ⟨⟨_, Tryz.func109, body109⟩, clone109⟩

end Go.Proofs.YtedmfigcajdkbaaGreatDoor
