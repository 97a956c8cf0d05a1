/-
  What the evaluator asks of the program: each fact by the kernel.
-/
import Derived.Test.YtcmeadgdojfhnaaGreatDoorClone
import Derived.Test.YtcmeadgdojfhnaaGreatDoorPln
import Derived.Test.YtcmeadgdojfhnaaGreatDoorIns
set_option linter.unusedSimpArgs false
set_option linter.unusedVariables false
namespace Go.Proofs.YtcmeadgdojfhnaaGreatDoor
open Go.Tel
theorem namesEv : (Tryz.prog.funcs.toList.all fun fn => fn.body.isNone || !(fn.name == "runtime.NumGoroutine")) = true := by kernel_rfl
theorem mixEv : Tryz.prog.follows .mixedOrders = true := by kernel_rfl
theorem body117 : Tryz.f117.body.isSome = true := by kernel_rfl
theorem tolds (R : Nat → Option (List PV)) (f : FuncId) (T : Lim → List AV → Sto → Option (AV × Sto)) (hT : (env R).told f = some T) : ToldOk (env R) f T := by
  have h : toldT f = some T := hT
  by_cases e136 : f = 136
  · subst e136
    obtain rfl : T = insT := (Option.some.inj h).symm
    exact insT_ok (E := (env R)) (f := 136) insCI
  have h136 : Nat.beq f 136 = false := beq_ne e136
  unfold toldT at h
  simp [h136] at h
theorem backs (R : Nat → Option (List PV)) (f : FuncId) (t : TypeId) (hT : (env R).back f = some t) : BackC Tryz.prog f t := by
  have h : backT f = some t := hT
  unfold backT at h
  simp at h
theorem clones (f : FuncId) (h : cloneT f = true) (hn : toldT f = none) : f = 117 := by
  have n136 : f ≠ 136 := fun e => by subst e; have hx : some (insT) = none := hn; cases hx
  have h136 : Nat.beq f 136 = false := beq_ne n136
  by_cases e : f = 117
  · exact e
  have h117 : Nat.beq f 117 = false := beq_ne e
  unfold cloneT at h
  simp only [h117, h136, cond_false, Bool.cond_self, Bool.false_eq_true] at h
theorem good (R : Nat → Option (List PV)) : Tel.Good (env R) := by
  refine Tel.Good.of_checks (plansEv R) namesEv mixEv (tolds R) (backs R) (fun f hf hn => ?_)
  rcases clones f hf hn with rfl
  · exact ⟨⟨_, Tryz.func117, body117⟩, clone117⟩
end Go.Proofs.YtcmeadgdojfhnaaGreatDoor
