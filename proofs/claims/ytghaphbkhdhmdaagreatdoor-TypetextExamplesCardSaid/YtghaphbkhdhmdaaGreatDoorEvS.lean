/-
  The plans of two settings that share program and plans.
-/
import Derived.Test.YtghaphbkhdhmdaaGreatDoorEvI
set_option linter.unusedSimpArgs false
set_option linter.unusedVariables false
namespace Go.Tel

theorem allPlans_congr {E E' : Env} (hP : E.P = E'.P) (hpl : E.plan = E'.plan) : allPlans E = allPlans E' := by
  unfold allPlans
  rw [hP, hpl]

/-- The plans of one function. -/
def planF (E : Env) (f : Nat) : Bool := match E.P.funcs[f]? with
  | some fn => match fn.body with
    | some c => plansOk (E.plan f) c
    | none => true
  | none => true

theorem allPlans_of {E : Env} (n : Nat) (h : ∀ f, f < n → planF E f = true) (k : (((List.range E.P.funcs.size).drop n).all (planF E)) = true) : allPlans E = true := by
  unfold allPlans
  rw [List.all_eq_true]
  intro f hf
  show planF E f = true
  by_cases hn : f < n
  · exact h f hn
  · rw [List.all_eq_true] at k
    refine k f ?_
    have hlt : f < E.P.funcs.size := List.mem_range.1 hf
    rw [List.mem_drop_iff_getElem]
    exact ⟨f - n, by simp; omega, by simp; omega⟩

end Go.Tel
