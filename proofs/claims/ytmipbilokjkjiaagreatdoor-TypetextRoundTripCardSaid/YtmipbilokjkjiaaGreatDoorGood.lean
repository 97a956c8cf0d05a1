/-
  What the evaluator asks of the program: each fact by the kernel.
-/
import Derived.Test.YtmipbilokjkjiaaGreatDoorClone
import Derived.Test.YtmipbilokjkjiaaGreatDoorPln
import Derived.Test.YtmipbilokjkjiaaGreatDoorTenM
import Derived.Test.YtmipbilokjkjiaaGreatDoorBld
import Derived.Test.YtmipbilokjkjiaaGreatDoorPar
import Derived.Test.YtmipbilokjkjiaaGreatDoorTC
import Derived.Test.YtmipbilokjkjiaaGreatDoorBack
import Derived.Test.YtmipbilokjkjiaaGreatDoorIns
set_option linter.unusedSimpArgs false
set_option linter.unusedVariables false
namespace Go.Proofs.YtmipbilokjkjiaaGreatDoor
open Go.Tel
theorem namesEv : (Tryz.prog.funcs.toList.all fun fn => fn.body.isNone || !(fn.name == "runtime.NumGoroutine")) = true := by kernel_rfl
theorem mixEv : Tryz.prog.follows .mixedOrders = true := by kernel_rfl
theorem body61 : Tryz.f61.body.isSome = true := by kernel_rfl
theorem tolds0 (R : Nat → Option (List PV)) (f : FuncId) (T : Lim → List AV → Sto → Option (AV × Sto)) (hT : (env0 R).told f = some T) : ToldOk (env0 R) f T := by
  have h : toldT f = some T := hT
  by_cases e31 : f = 31
  · subst e31
    obtain rfl : T = Go.Tel.strT 5 := (aLs0036 h).symm
    exact strT_ok strC
  have h31 : Nat.beq f 31 = false := beq_ne e31
  by_cases e82 : f = 82
  · subst e82
    obtain rfl : T = copyT okB := (aLs0036 h).symm
    exact copyT_ok copyC
  have h82 : Nat.beq f 82 = false := beq_ne e82
  by_cases e105 : f = 105
  · subst e105
    obtain rfl : T = insT := (aLs0036 h).symm
    exact insT_ok (E := (env0 R)) (f := 105) insC
  have h105 : Nat.beq f 105 = false := beq_ne e105
  unfold toldT at h
  simp [h31, h82, h105] at h
theorem backs (R : Nat → Option (List PV)) (f : FuncId) (t : TypeId) (hT : (env0 R).back f = some t) : BackC Tryz.prog f t := by
  have h : backT f = some t := hT
  by_cases e116 : f = 116
  · subst e116
    obtain rfl : t = 9 := (aLs0036 h).symm
    exact backF
  have h116 : Nat.beq f 116 = false := beq_ne e116
  unfold backT at h
  simp [h116] at h
theorem clones (f : FuncId) (h : cloneT f = true) (hn : toldT f = none) : f = 61 := by
  have n31 : f ≠ 31 := fun e => by subst e; have hx : some (Go.Tel.strT 5) = none := hn; cases hx
  have h31 : Nat.beq f 31 = false := beq_ne n31
  have n82 : f ≠ 82 := fun e => by subst e; have hx : some (copyT okB) = none := hn; cases hx
  have h82 : Nat.beq f 82 = false := beq_ne n82
  have n105 : f ≠ 105 := fun e => by subst e; have hx : some (insT) = none := hn; cases hx
  have h105 : Nat.beq f 105 = false := beq_ne n105
  by_cases e : f = 61
  · exact e
  have h61 : Nat.beq f 61 = false := beq_ne e
  unfold cloneT at h
  simp only [h61, h31, h82, h105, aLs0009, Bool.cond_self, aLs0021] at h
theorem good0 (R : Nat → Option (List PV)) : Tel.Good (env0 R) := by
  refine Tel.Good.of_checks (plansEv0 R) namesEv mixEv (tolds0 R) (backs R) (fun f hf hn => ?_)
  rcases clones f hf hn with rfl
  · exact ⟨⟨_, Tryz.func61, body61⟩, clone61⟩
theorem tolds (R : Nat → Option (List PV)) (f : FuncId) (T : Lim → List AV → Sto → Option (AV × Sto)) (hT : (env R).told f = some T) : ToldOk (env R) f T := by
  have h : (bif Nat.beq f 39 then some parPT else toldT f) = some T := hT
  by_cases ea : f = 39
  · subst ea
    obtain rfl : T = parPT := (aLs0036 h).symm
    exact parPT_ok (E := (env R)) (E0 := (env0 R)) (good0 R) rfl rfl parC (by decide) (parse_all (R := R))
  · have ha : Nat.beq f 39 = false := beq_ne ea
    rw [ha] at h
    intro L args s s' v g w vs h1 h2 h3
    obtain ⟨h4, h5⟩ := tolds0 R f T h L args s s' v g w vs h1 (h2.env (E := (env R)) (E' := (env0 R)) rfl rfl) h3
    exact ⟨h4, h5.mono fun e w' ⟨v', g', k1, k2, k3, k4⟩ => ⟨v', g', k1, k2, k3, k4.env (E := (env0 R)) (E' := (env R)) rfl rfl⟩⟩
theorem plansEv (R : Nat → Option (List PV)) : allPlans (env R) = true := (allPlans_congr (E := (env R)) (E' := (env0 R)) rfl rfl).trans (plansEv0 R)
theorem good (R : Nat → Option (List PV)) : Tel.Good (env R) := by
  refine Tel.Good.of_checks (plansEv R) namesEv mixEv (tolds R) (backs R) (fun f hf hn => ?_)
  have h : (bif Nat.beq f 39 then true else cloneT f) = true := hf
  have k : (bif Nat.beq f 39 then some parPT else toldT f) = none := hn
  by_cases ea : f = 39
  · subst ea
    cases k
  · have ha : Nat.beq f 39 = false := beq_ne ea
    rw [ha] at h k
    rcases clones f h k with rfl
    · exact ⟨⟨_, Tryz.func61, body61⟩, clone61⟩
end Go.Proofs.YtmipbilokjkjiaaGreatDoor
