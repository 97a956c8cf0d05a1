/-
  Calls from a world whose arguments are slices of integers and strings.
-/
import Derived.Test.YtpmafnbhkhdaiaaGreatDoorWvD
import Derived.ChangeSlices
set_option linter.unusedSimpArgs false
set_option linter.unusedVariables false
namespace Go.Tel
open Go.ChangeShapes Go.WideShapes
theorem callE_calls {E : Env} (hG : Good E) {f : FuncId} {args : List AV} {vs : List Value} {u : Value} {s' : Sto} {W : World} (hW : Globs E W) (hargs : VL (Ghost.bare fun b _ => b < W.heap.size) W args vs) (h : CallE E L0 f args ⟨[], []⟩ (.pv (.sc u)) s') :
    Calls E.P f vs.toArray W fun e w' => e = .returned u ∧ Still W w' := by
  obtain ⟨n, hn⟩ := h
  refine ((callN_sound hG n L0 f _ _ _ _ _ _ _ (hn n (Nat.le_refl n)) hW.inv hargs).2).mono ?_
  rintro e w' ⟨v', g', rfl, hv, hx, _⟩
  refine ⟨by rw [hv.scv_inv], hx.os, hx.output, fun b hb => (hx.out b hb (fun _ e => by simp [Ghost.bare] at e) (fun _ _ e => by simp [Ghost.bare] at e) (fun _ e => by simp [Ghost.bare] at e)).1⟩
theorem V_int {g : Ghost} {w : World} (n : Int) : V g w (I64 n) (.int .i64 n) := .pv (.sc _)
end Go.Tel
