/-
  SubtypeExamples: the evaluation, by the kernel, with the known calls.
-/
import Derived.Test.YtedmfigcajdkbaaGreatDoorKnB
import Derived.Test.YtedmfigcajdkbaaGreatDoorKnD
import Derived.Test.YtedmfigcajdkbaaGreatDoorKnE
import Derived.Test.YtedmfigcajdkbaaGreatDoorKnF
namespace Go.Proofs.YtedmfigcajdkbaaGreatDoor.subtypeExamples
open Go.Tel

def known : List Known := [k0, k9, k10, k11, k12, k13, k14, k15, k16, k18, k19]

theorem knownOk : ∀ k ∈ known, k.Ok env := by
  intro k hk
  simp only [known, List.mem_cons, List.not_mem_nil, or_false] at hk
  rcases hk with rfl | rfl | rfl | rfl | rfl | rfl | rfl | rfl | rfl | rfl | rfl
  · exact k0Ok
  · exact k9Ok
  · exact k10Ok
  · exact k11Ok
  · exact k12Ok
  · exact k13Ok
  · exact k14Ok
  · exact k15Ok
  · exact k16Ok
  · exact k18Ok
  · exact k19Ok

theorem ev : callK env known 400 L0 3 [] ⟨[], []⟩ = some (scv (.bool true), ⟨[], []⟩) := by kernel_rfl

end Go.Proofs.YtedmfigcajdkbaaGreatDoor.subtypeExamples
