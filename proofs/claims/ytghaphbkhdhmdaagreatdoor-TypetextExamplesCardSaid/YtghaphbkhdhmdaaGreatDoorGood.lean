/-
  What the evaluator asks of the program: each fact by the kernel.
-/
import Derived.Test.YtghaphbkhdhmdaaGreatDoorClone
import Derived.Test.YtghaphbkhdhmdaaGreatDoorPln
import Derived.Test.YtghaphbkhdhmdaaGreatDoorEvS
import Derived.Test.YtghaphbkhdhmdaaGreatDoorBld
import Derived.Test.YtghaphbkhdhmdaaGreatDoorPar
import Derived.Test.YtghaphbkhdhmdaaGreatDoorBackS
import Derived.Test.YtghaphbkhdhmdaaGreatDoorBackT
import Derived.Test.YtghaphbkhdhmdaaGreatDoorDel
import Derived.Test.YtghaphbkhdhmdaaGreatDoorInS
import Derived.Test.YtghaphbkhdhmdaaGreatDoorInI
set_option linter.unusedSimpArgs false
set_option linter.unusedVariables false
namespace Go.Proofs.YtghaphbkhdhmdaaGreatDoor
open Go.Tel

theorem namesEv : (Tryz.prog.funcs.toList.all fun fn => fn.body.isNone || !(fn.name == "runtime.NumGoroutine")) = true := by kernel_rfl
theorem mixEv : Tryz.prog.follows .mixedOrders = true := by kernel_rfl
theorem body67 : Tryz.f67.body.isSome = true := by kernel_rfl
theorem body95 : Tryz.f95.body.isSome = true := by kernel_rfl
theorem body194 : Tryz.f194.body.isSome = true := by kernel_rfl

theorem tolds0 (f : FuncId) (T : Lim → List AV → Sto → Option (AV × Sto)) (hT : env0.told f = some T) : ToldOk env0 f T := by
  have h : toldT f = some T := hT
  by_cases e31 : f = 31
  · subst e31
    obtain rfl : T = strT 5 := (Option.some.inj h).symm
    exact strT_ok strC
  have h31 : Nat.beq f 31 = false := beq_ne e31
  by_cases e94 : f = 94
  · subst e94
    obtain rfl : T = delT 5 := (Option.some.inj h).symm
    exact delT_ok (E := env0) (f := 94) delC
  have h94 : Nat.beq f 94 = false := beq_ne e94
  by_cases e108 : f = 108
  · subst e108
    obtain rfl : T = copyT okB := (Option.some.inj h).symm
    exact copyT_ok copyC
  have h108 : Nat.beq f 108 = false := beq_ne e108
  by_cases e148 : f = 148
  · subst e148
    obtain rfl : T = insT := (Option.some.inj h).symm
    exact insT_ok (E := env0) (f := 148) insCS
  have h148 : Nat.beq f 148 = false := beq_ne e148
  by_cases e191 : f = 191
  · subst e191
    obtain rfl : T = insT := (Option.some.inj h).symm
    exact insT_ok (E := env0) (f := 191) insCI
  have h191 : Nat.beq f 191 = false := beq_ne e191
  unfold toldT at h
  simp [h31, h94, h108, h148, h191] at h

theorem backs (f : FuncId) (t : TypeId) (hT : env0.back f = some t) : BackC Tryz.prog f t := by
  have h : backT f = some t := hT
  by_cases e144 : f = 144
  · subst e144
    obtain rfl : t = 30 := (Option.some.inj h).symm
    exact backF
  have h144 : Nat.beq f 144 = false := beq_ne e144
  by_cases e160 : f = 160
  · subst e160
    obtain rfl : t = 9 := (Option.some.inj h).symm
    exact bacsF
  have h160 : Nat.beq f 160 = false := beq_ne e160
  unfold backT at h
  simp [h144, h160] at h

theorem clones (f : FuncId) (h : cloneT f = true) (hn : toldT f = none) : f = 67 ∨ f = 95 ∨ f = 194 := by
  have n31 : f ≠ 31 := fun e => by subst e; have hx : some (strT 5) = none := hn; cases hx
  have h31 : Nat.beq f 31 = false := beq_ne n31
  have n94 : f ≠ 94 := fun e => by subst e; have hx : some (delT 5) = none := hn; cases hx
  have h94 : Nat.beq f 94 = false := beq_ne n94
  have n108 : f ≠ 108 := fun e => by subst e; have hx : some (copyT okB) = none := hn; cases hx
  have h108 : Nat.beq f 108 = false := beq_ne n108
  have n148 : f ≠ 148 := fun e => by subst e; have hx : some (insT) = none := hn; cases hx
  have h148 : Nat.beq f 148 = false := beq_ne n148
  have n191 : f ≠ 191 := fun e => by subst e; have hx : some (insT) = none := hn; cases hx
  have h191 : Nat.beq f 191 = false := beq_ne n191
  by_cases e : f = 67
  · exact .inl e
  have h67 : Nat.beq f 67 = false := beq_ne e
  by_cases e : f = 95
  · exact .inr (.inl e)
  have h95 : Nat.beq f 95 = false := beq_ne e
  by_cases e : f = 194
  · exact .inr (.inr (e))
  have h194 : Nat.beq f 194 = false := beq_ne e
  unfold cloneT at h
  simp only [h67, h95, h194, h31, h94, h108, h148, h191, cond_false, Bool.cond_self, Bool.false_eq_true] at h

theorem good0 : Tel.Good env0 := by
  refine Tel.Good.of_checks (plansEv0) namesEv mixEv (tolds0) (backs) (fun f hf hn => ?_)
  rcases clones f hf hn with rfl | rfl | rfl
  · exact ⟨⟨_, Tryz.func67, body67⟩, clone67⟩
  · exact ⟨⟨_, Tryz.func95, body95⟩, clone95⟩
  · exact ⟨⟨_, Tryz.func194, body194⟩, clone194⟩

theorem tolds (f : FuncId) (T : Lim → List AV → Sto → Option (AV × Sto)) (hT : env.told f = some T) : ToldOk env f T := by
  have h : (bif Nat.beq f 24 then some (parT env0 46) else toldT f) = some T := hT
  by_cases ea : f = 24
  · subst ea
    obtain rfl : T = parT env0 46 := (Option.some.inj h).symm
    exact parT_ok (E := env) (E0 := env0) (good0) rfl rfl parC (by decide)
  · have ha : Nat.beq f 24 = false := beq_ne ea
    rw [ha] at h
    intro L args s s' v g w vs h1 h2 h3
    obtain ⟨h4, h5⟩ := tolds0 f T h L args s s' v g w vs h1 (h2.env (E := env) (E' := env0) rfl rfl) h3
    exact ⟨h4, h5.mono fun e w' ⟨v', g', k1, k2, k3, k4⟩ => ⟨v', g', k1, k2, k3, k4.env (E := env0) (E' := env) rfl rfl⟩⟩

theorem plansEv : allPlans env = true := (allPlans_congr (E := env) (E' := env0) rfl rfl).trans (plansEv0)

theorem good : Tel.Good env := by
  refine Tel.Good.of_checks (plansEv) namesEv mixEv (tolds) (backs) (fun f hf hn => ?_)
  have h : (bif Nat.beq f 24 then true else cloneT f) = true := hf
  have k : (bif Nat.beq f 24 then some (parT env0 46) else toldT f) = none := hn
  by_cases ea : f = 24
  · subst ea
    cases k
  · have ha : Nat.beq f 24 = false := beq_ne ea
    rw [ha] at h k
    rcases clones f h k with rfl | rfl | rfl
    · exact ⟨⟨_, Tryz.func67, body67⟩, clone67⟩
    · exact ⟨⟨_, Tryz.func95, body95⟩, clone95⟩
    · exact ⟨⟨_, Tryz.func194, body194⟩, clone194⟩

end Go.Proofs.YtghaphbkhdhmdaaGreatDoor
