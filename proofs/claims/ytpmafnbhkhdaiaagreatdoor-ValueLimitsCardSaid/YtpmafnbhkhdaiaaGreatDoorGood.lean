/-
  What the evaluator asks of the program: each fact by the kernel.
-/
import Derived.Test.YtpmafnbhkhdaiaaGreatDoorClone
import Derived.Test.YtpmafnbhkhdaiaaGreatDoorPln
import Derived.Test.YtpmafnbhkhdaiaaGreatDoorTenM
import Derived.Test.YtpmafnbhkhdaiaaGreatDoorTenP
import Derived.Test.YtpmafnbhkhdaiaaGreatDoorBld
import Derived.Test.YtpmafnbhkhdaiaaGreatDoorBackT
import Derived.Test.YtpmafnbhkhdaiaaGreatDoorDel
import Derived.Test.YtpmafnbhkhdaiaaGreatDoorInS
import Derived.Test.YtpmafnbhkhdaiaaGreatDoorInI
set_option linter.unusedSimpArgs false
set_option linter.unusedVariables false
namespace Go.Proofs.YtpmafnbhkhdaiaaGreatDoor
open Go.Tel
theorem namesEv : (Tryz.prog.funcs.toList.all fun fn => fn.body.isNone || !(fn.name == "runtime.NumGoroutine")) = true := by kernel_rfl
theorem mixEv : Tryz.prog.follows .mixedOrders = true := by kernel_rfl
theorem body131 : Tryz.f131.body.isSome = true := by kernel_rfl
theorem body139 : Tryz.f139.body.isSome = true := by kernel_rfl
theorem body217 : Tryz.f217.body.isSome = true := by kernel_rfl
theorem tolds0 (R : Nat → Option (List PV)) (f : FuncId) (T : Lim → List AV → Sto → Option (AV × Sto)) (hT : (env0 R).told f = some T) : ToldOk (env0 R) f T := by
  have h : toldT f = some T := hT
  by_cases e51 : f = 51
  · subst e51
    obtain rfl : T = strT 5 := (Option.some.inj h).symm
    exact strT_ok strC
  have h51 : Nat.beq f 51 = false := beq_ne e51
  by_cases e85 : f = 85
  · subst e85
    obtain rfl : T = copyT okB := (Option.some.inj h).symm
    exact copyT_ok copyC
  have h85 : Nat.beq f 85 = false := beq_ne e85
  by_cases e138 : f = 138
  · subst e138
    obtain rfl : T = delT 5 := (Option.some.inj h).symm
    exact delT_ok (E := (env0 R)) (f := 138) delC
  have h138 : Nat.beq f 138 = false := beq_ne e138
  by_cases e196 : f = 196
  · subst e196
    obtain rfl : T = insT := (Option.some.inj h).symm
    exact insT_ok (E := (env0 R)) (f := 196) insCS
  have h196 : Nat.beq f 196 = false := beq_ne e196
  by_cases e208 : f = 208
  · subst e208
    obtain rfl : T = insT := (Option.some.inj h).symm
    exact insT_ok (E := (env0 R)) (f := 208) insCI
  have h208 : Nat.beq f 208 = false := beq_ne e208
  unfold toldT at h
  simp [h51, h85, h138, h196, h208] at h
theorem backs (R : Nat → Option (List PV)) (f : FuncId) (t : TypeId) (hT : (env0 R).back f = some t) : BackC Tryz.prog f t := by
  have h : backT f = some t := hT
  by_cases e184 : f = 184
  · subst e184
    obtain rfl : t = 42 := (Option.some.inj h).symm
    exact backF
  have h184 : Nat.beq f 184 = false := beq_ne e184
  unfold backT at h
  simp [h184] at h
theorem clones (f : FuncId) (h : cloneT f = true) (hn : toldT f = none) : f = 131 ∨ f = 139 ∨ f = 217 := by
  have n51 : f ≠ 51 := fun e => by subst e; have hx : some (strT 5) = none := hn; cases hx
  have h51 : Nat.beq f 51 = false := beq_ne n51
  have n85 : f ≠ 85 := fun e => by subst e; have hx : some (copyT okB) = none := hn; cases hx
  have h85 : Nat.beq f 85 = false := beq_ne n85
  have n138 : f ≠ 138 := fun e => by subst e; have hx : some (delT 5) = none := hn; cases hx
  have h138 : Nat.beq f 138 = false := beq_ne n138
  have n196 : f ≠ 196 := fun e => by subst e; have hx : some (insT) = none := hn; cases hx
  have h196 : Nat.beq f 196 = false := beq_ne n196
  have n208 : f ≠ 208 := fun e => by subst e; have hx : some (insT) = none := hn; cases hx
  have h208 : Nat.beq f 208 = false := beq_ne n208
  by_cases e : f = 131
  · exact .inl e
  have h131 : Nat.beq f 131 = false := beq_ne e
  by_cases e : f = 139
  · exact .inr (.inl e)
  have h139 : Nat.beq f 139 = false := beq_ne e
  by_cases e : f = 217
  · exact .inr (.inr (e))
  have h217 : Nat.beq f 217 = false := beq_ne e
  unfold cloneT at h
  simp only [h131, h139, h217, h51, h85, h138, h196, h208, cond_false, Bool.cond_self, Bool.false_eq_true] at h
theorem good0 (R : Nat → Option (List PV)) : Tel.Good (env0 R) := by
  refine Tel.Good.of_checks (plansEv0 R) namesEv mixEv (tolds0 R) (backs R) (fun f hf hn => ?_)
  rcases clones f hf hn with rfl | rfl | rfl
  · exact ⟨⟨_, Tryz.func131, body131⟩, clone131⟩
  · exact ⟨⟨_, Tryz.func139, body139⟩, clone139⟩
  · exact ⟨⟨_, Tryz.func217, body217⟩, clone217⟩
theorem tolds (R : Nat → Option (List PV)) (f : FuncId) (T : Lim → List AV → Sto → Option (AV × Sto)) (hT : (env R).told f = some T) : ToldOk (env R) f T := by
  have h : (bif Nat.beq f 32 then some (frT (env0 R) 32 3) else bif Nat.beq f 33 then some (frT (env0 R) 33 3) else bif Nat.beq f 34 then some (frT (env0 R) 34 4) else toldT f) = some T := hT
  by_cases ea32 : f = 32
  · subst ea32
    obtain rfl : T = frT (env0 R) 32 3 := (Option.some.inj h).symm
    exact frT_ok (E := (env R)) (E0 := (env0 R)) (good0 R) rfl rfl
  have ha32 : Nat.beq f 32 = false := beq_ne ea32
  rw [ha32] at h
  by_cases ea33 : f = 33
  · subst ea33
    obtain rfl : T = frT (env0 R) 33 3 := (Option.some.inj h).symm
    exact frT_ok (E := (env R)) (E0 := (env0 R)) (good0 R) rfl rfl
  have ha33 : Nat.beq f 33 = false := beq_ne ea33
  rw [ha33] at h
  by_cases ea34 : f = 34
  · subst ea34
    obtain rfl : T = frT (env0 R) 34 4 := (Option.some.inj h).symm
    exact frT_ok (E := (env R)) (E0 := (env0 R)) (good0 R) rfl rfl
  have ha34 : Nat.beq f 34 = false := beq_ne ea34
  rw [ha34] at h
  intro L args s s' v g w vs h1 h2 h3
  obtain ⟨h4, h5⟩ := tolds0 R f T h L args s s' v g w vs h1 (h2.env (E := (env R)) (E' := (env0 R)) rfl rfl) h3
  exact ⟨h4, h5.mono fun e w' ⟨v', g', k1, k2, k3, k4⟩ => ⟨v', g', k1, k2, k3, k4.env (E := (env0 R)) (E' := (env R)) rfl rfl⟩⟩
theorem plansEv (R : Nat → Option (List PV)) : allPlans (env R) = true := (allPlans_congr (E := (env R)) (E' := (env0 R)) rfl rfl).trans (plansEv0 R)
theorem good (R : Nat → Option (List PV)) : Tel.Good (env R) := by
  refine Tel.Good.of_checks (plansEv R) namesEv mixEv (tolds R) (backs R) (fun f hf hn => ?_)
  have h : (bif Nat.beq f 32 then true else bif Nat.beq f 33 then true else bif Nat.beq f 34 then true else cloneT f) = true := hf
  have k : (bif Nat.beq f 32 then some (frT (env0 R) 32 3) else bif Nat.beq f 33 then some (frT (env0 R) 33 3) else bif Nat.beq f 34 then some (frT (env0 R) 34 4) else toldT f) = none := hn
  by_cases ea32 : f = 32
  · subst ea32
    cases k
  have ha32 : Nat.beq f 32 = false := beq_ne ea32
  rw [ha32] at h k
  by_cases ea33 : f = 33
  · subst ea33
    cases k
  have ha33 : Nat.beq f 33 = false := beq_ne ea33
  rw [ha33] at h k
  by_cases ea34 : f = 34
  · subst ea34
    cases k
  have ha34 : Nat.beq f 34 = false := beq_ne ea34
  rw [ha34] at h k
  rcases clones f h k with rfl | rfl | rfl
  · exact ⟨⟨_, Tryz.func131, body131⟩, clone131⟩
  · exact ⟨⟨_, Tryz.func139, body139⟩, clone139⟩
  · exact ⟨⟨_, Tryz.func217, body217⟩, clone217⟩
end Go.Proofs.YtpmafnbhkhdaiaaGreatDoor
