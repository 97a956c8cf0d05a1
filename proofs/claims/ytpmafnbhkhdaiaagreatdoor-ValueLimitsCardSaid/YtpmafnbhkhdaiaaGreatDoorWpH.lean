/-
  A loop over an iterator's values: what a round needs, and the whole loop.
-/
import Derived.Test.YtpmafnbhkhdaiaaGreatDoorWvF
set_option linter.unusedSimpArgs false
set_option linter.unusedVariables false
namespace Go.Tel
theorem CodeE.both {E : Env} {L : Lim} {a b : Code} {st st1 st2 st3 : St} {o o' : Out} (h1 : CodeE E L a st o st1) (h2 : CodeE E L b st2 o' st3) :
    ∃ n, ∀ m k, n ≤ m → n ≤ k → evW E (callN E m) k L a st = some (o, st1) ∧ evW E (callN E m) k L b st2 = some (o', st3) := by
  obtain ⟨n1, h1⟩ := h1
  obtain ⟨n2, h2⟩ := h2
  exact ⟨max n1 n2, fun m k hm hk => ⟨h1 m k (by omega) (by omega), h2 m k (by omega) (by omega)⟩⟩
end Go.Tel
