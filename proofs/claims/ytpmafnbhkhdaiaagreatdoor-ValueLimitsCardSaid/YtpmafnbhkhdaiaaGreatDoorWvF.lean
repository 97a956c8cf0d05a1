/-
  Arguments of a card: slices of integers, strings; what they hold, and that they read as before.
-/
import Derived.Test.YtpmafnbhkhdaiaaGreatDoorWvE
import Derived.ChangeMaps5
set_option linter.unusedSimpArgs false
set_option linter.unusedVariables false
namespace Go.Tel
open Go.ChangeShapes Go.WideShapes Go.ChangeMaps
section
variable {H : Type} {enc : TypeId × Value → H} {P : Program} {W : World}
theorem int_arg {t : TypeId} {v : Value} {d : DataW H} {p : List MemPlace} (ht : P.underlying t = some (.int .i64)) {r : Reach} {b0 : Nat} (hval : Value.okWide P W r b0 t v) (h : DataW.Trod enc P W 0 (fun _ => true) true t v d p) :
    ∃ n : Int, v = .int .i64 n ∧ V (Ghost.bare fun b _ => b < W.heap.size) W (I64 n) v ∧ (Lit.int .i64 n).wf = true ∧
      (∀ W', ∀ sp : Nat → Bool, DataW.Trod enc P W' 0 sp true t v d p) := by
  obtain ⟨n, rfl, rfl, rfl, hw⟩ := open_int ht hval h
  exact ⟨n, rfl, V_int n, hw, fun W' sp => shut_int ht hw⟩
end
end Go.Tel
