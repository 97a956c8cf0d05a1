/-
  What the evaluator asks of the program: each fact by the kernel.
-/
import Derived.Test.YtchenbmikiohdaaGreatDoorClone
import Derived.Test.YtchenbmikiohdaaGreatDoorPln
import Derived.Test.YtchenbmikiohdaaGreatDoorBld
import Derived.Test.YtchenbmikiohdaaGreatDoorBack
import Derived.Test.YtchenbmikiohdaaGreatDoorDel
set_option linter.unusedSimpArgs false
set_option linter.unusedVariables false
namespace Go.Proofs.YtchenbmikiohdaaGreatDoor
open Go.Tel

theorem namesEv : (Tryz.prog.funcs.toList.all fun fn => fn.body.isNone || !(fn.name == "runtime.NumGoroutine")) = true := by kernel_rfl
theorem mixEv : Tryz.prog.follows .mixedOrders = true := by kernel_rfl
theorem body120 : Tryz.f120.body.isSome = true := by kernel_rfl
theorem body143 : Tryz.f143.body.isSome = true := by kernel_rfl
theorem body221 : Tryz.f221.body.isSome = true := by kernel_rfl

theorem tolds (f : FuncId) (T : Lim → List AV → Sto → Option (AV × Sto)) (hT : env.told f = some T) : ToldOk env f T := by
  have h : toldT f = some T := hT
  by_cases e43 : f = 43
  · subst e43
    obtain rfl : T = strT 5 := (Option.some.inj h).symm
    exact strT_ok strC
  have h43 : Nat.beq f 43 = false := beq_ne e43
  by_cases e76 : f = 76
  · subst e76
    obtain rfl : T = copyT okB := (Option.some.inj h).symm
    exact copyT_ok copyC
  have h76 : Nat.beq f 76 = false := beq_ne e76
  by_cases e142 : f = 142
  · subst e142
    obtain rfl : T = delT 5 := (Option.some.inj h).symm
    exact delT_ok (E := env) (f := 142) delC
  have h142 : Nat.beq f 142 = false := beq_ne e142
  unfold toldT at h
  simp [h43, h76, h142] at h

theorem backs (f : FuncId) (t : TypeId) (hT : env.back f = some t) : BackC env.P f t := by
  have h : backT f = some t := hT
  by_cases e188 : f = 188
  · subst e188
    obtain rfl : t = 33 := (Option.some.inj h).symm
    exact backF
  have h188 : Nat.beq f 188 = false := beq_ne e188
  unfold backT at h
  simp [h188] at h

theorem good : Tel.Good env := by
  refine Tel.Good.of_checks plansEv namesEv mixEv tolds backs (fun f hf hn => ?_)
  have h : cloneT f = true := hf
  have n43 : f ≠ 43 := fun e => by subst e; have hx : some (strT 5) = none := hn; cases hx
  have h43 : Nat.beq f 43 = false := beq_ne n43
  have n76 : f ≠ 76 := fun e => by subst e; have hx : some (copyT okB) = none := hn; cases hx
  have h76 : Nat.beq f 76 = false := beq_ne n76
  have n142 : f ≠ 142 := fun e => by subst e; have hx : some (delT 5) = none := hn; cases hx
  have h142 : Nat.beq f 142 = false := beq_ne n142
  have hs : f = 120 ∨ f = 143 ∨ f = 221 := by
    by_cases e : f = 120
    · exact .inl e
    have h120 : Nat.beq f 120 = false := beq_ne e
    by_cases e : f = 143
    · exact .inr (.inl e)
    have h143 : Nat.beq f 143 = false := beq_ne e
    by_cases e : f = 221
    · exact .inr (.inr (e))
    have h221 : Nat.beq f 221 = false := beq_ne e
    unfold cloneT at h
    simp only [h120, h143, h221, h43, h76, h142, cond_false, Bool.cond_self, Bool.false_eq_true] at h
  rcases hs with rfl | rfl | rfl
  · exact ⟨⟨_, Tryz.func120, body120⟩, clone120⟩
  · exact ⟨⟨_, Tryz.func143, body143⟩, clone143⟩
  · exact ⟨⟨_, Tryz.func221, body221⟩, clone221⟩

end Go.Proofs.YtchenbmikiohdaaGreatDoor
