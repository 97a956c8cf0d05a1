/-
  The plans of two settings that share program and plans.
-/
import Derived.Test.YtmipbilokjkjiaaGreatDoorEvI
set_option linter.unusedSimpArgs false
set_option linter.unusedVariables false
namespace Go.Tel
theorem allPlans_congr {E E' : Env} (hP : E.P = E'.P) (hpl : E.plan = E'.plan) : allPlans E = allPlans E' := by grind[allPlans]
def planF (E : Env) (f : Nat) : Bool := match E.P.funcs[f]? with
  | some fn => match fn.body with
    | some c => plansOk (E.plan f) c
    | none => true
  | none => true
end Go.Tel
