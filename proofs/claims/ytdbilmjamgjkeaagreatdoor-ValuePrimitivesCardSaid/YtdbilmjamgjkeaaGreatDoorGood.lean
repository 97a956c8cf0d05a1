/-
  What the evaluator asks of the program: each fact by the kernel.
-/
import Derived.Test.YtdbilmjamgjkeaaGreatDoorClone
import Derived.Test.YtdbilmjamgjkeaaGreatDoorPln
import Derived.Test.YtdbilmjamgjkeaaGreatDoorBld
namespace Go.Proofs.YtdbilmjamgjkeaaGreatDoor
open Go.Tel

theorem namesEv : (Tryz.prog.funcs.toList.all fun fn => fn.body.isNone || !(fn.name == "runtime.NumGoroutine")) = true := by kernel_rfl
theorem mixEv : Tryz.prog.follows .mixedOrders = true := by kernel_rfl
theorem body185 : Tryz.f185.body.isSome = true := by kernel_rfl
theorem body265 : Tryz.f265.body.isSome = true := by kernel_rfl
theorem body330 : Tryz.f330.body.isSome = true := by kernel_rfl

theorem tolds (f : FuncId) (T : Lim → List AV → Sto → Option (AV × Sto)) (hT : env.told f = some T) : ToldOk env f T := by
  have h : toldT f = some T := hT
  by_cases e71 : f = 71
  · subst e71
    obtain rfl : T = strT 5 := (Option.some.inj h).symm
    exact strT_ok strC
  have h71 : Nat.beq f 71 = false := beq_ne e71
  by_cases e129 : f = 129
  · subst e129
    obtain rfl : T = copyT okB := (Option.some.inj h).symm
    exact copyT_ok copyC
  have h129 : Nat.beq f 129 = false := beq_ne e129
  unfold toldT at h
  simp [h71, h129] at h

theorem good : Tel.Good env := by
  refine Tel.Good.of_checks plansEv namesEv mixEv tolds (fun f hf hn => ?_)
  have h : cloneT f = true := hf
  have n71 : f ≠ 71 := fun e => by subst e; have hx : some (strT 5) = none := hn; cases hx
  have h71 : Nat.beq f 71 = false := beq_ne n71
  have n129 : f ≠ 129 := fun e => by subst e; have hx : some (copyT okB) = none := hn; cases hx
  have h129 : Nat.beq f 129 = false := beq_ne n129
  have hs : f = 185 ∨ f = 265 ∨ f = 330 := by
    by_cases e : f = 185
    · exact .inl e
    have h185 : Nat.beq f 185 = false := beq_ne e
    by_cases e : f = 265
    · exact .inr (.inl e)
    have h265 : Nat.beq f 265 = false := beq_ne e
    by_cases e : f = 330
    · exact .inr (.inr (e))
    have h330 : Nat.beq f 330 = false := beq_ne e
    unfold cloneT at h
    simp only [h185, h265, h330, h71, h129, cond_false, Bool.cond_self, Bool.false_eq_true] at h
  rcases hs with rfl | rfl | rfl
  · exact ⟨⟨_, Tryz.func185, body185⟩, clone185⟩
  · exact ⟨⟨_, Tryz.func265, body265⟩, clone265⟩
  · exact ⟨⟨_, Tryz.func330, body330⟩, clone330⟩

end Go.Proofs.YtdbilmjamgjkeaaGreatDoor
