/-
  TypetextExamples: the evaluation, by the kernel, with the known calls.
-/
import Derived.Test.YtghaphbkhdhmdaaGreatDoorKnB
set_option linter.unusedSimpArgs false
set_option linter.unusedVariables false
namespace Go.Proofs.YtghaphbkhdhmdaaGreatDoor.typetextExamples
open Go.Tel

def known : List Known := [k0, k1, k2]

theorem knownOk : ∀ k ∈ known, k.Ok env := by
  intro k hk
  simp only [known, List.mem_cons, List.not_mem_nil, or_false] at hk
  rcases hk with rfl | rfl | rfl
  · exact k0Ok
  · exact k1Ok
  · exact k2Ok

theorem ev : callK env known 400 L0 3 [] ⟨[], []⟩ = some (scv (.bool true), ⟨[], []⟩) := by kernel_rfl

end Go.Proofs.YtghaphbkhdhmdaaGreatDoor.typetextExamples
