/-
  DnfLimits: the rest of the law, by the kernel.
-/
import Derived.Test.YteaholhenmneoaaGreatDoorLimA
namespace Go.Proofs.YteaholhenmneoaaGreatDoor.dnfLimits
open Go.Tel

theorem sub0 (d : Told) (w n : Int) : ∀ (ρ : Nat → AV) s, ρ 17 = scv (.int .i64 0) → actA env lim (cf w n d lim) ρ s (p 2) = some (scv (.int .i64 (-1)), s) := by
  intro ρ s h
  have h' : actA env lim (cf w n d lim) ρ s (p 2) = actA env lim (cf w n d lim) (fun _ => ρ 17) s (p 2) := by kernel_rfl
  have h'' : actA env lim (cf w n d lim) (fun _ => scv (.int .i64 0)) s (p 2) = some (scv (.int .i64 (-1)), s) := by kernel_rfl
  rw [h', h, h'']
theorem close00 : closeL [] 0 0 [term 0 (-1) 0] = some [term 0 (-1) 0] := by kernel_rfl
theorem tail00 (w n : Int) (l1 l2 : AV) : isTrueA (finishA env Tryz.f3 (rest ⟨term 0 (-1) 0, l1, l2, .ofNat 0⟩ w n ⟨117, ρ3 w n 0 (-1) 0, ⟨[z25], []⟩⟩)) = true := by kernel_rfl
theorem close01 : closeL [] 0 0 [term 0 (-1) 1] = some [term 0 (-1) 1] := by kernel_rfl
theorem tail01 (w n : Int) (l1 l2 : AV) : isTrueA (finishA env Tryz.f3 (rest ⟨term 0 (-1) 1, l1, l2, .ofNat 0⟩ w n ⟨117, ρ3 w n 0 (-1) 1, ⟨[z25], []⟩⟩)) = true := by kernel_rfl
theorem close02 : closeL [] 0 0 [term 0 (-1) 2] = some [term 0 (-1) 2] := by kernel_rfl
theorem tail02 (w n : Int) (l1 l2 : AV) : isTrueA (finishA env Tryz.f3 (rest ⟨term 0 (-1) 2, l1, l2, .ofNat 0⟩ w n ⟨117, ρ3 w n 0 (-1) 2, ⟨[z25], []⟩⟩)) = true := by kernel_rfl
theorem close03 : closeL [] 0 0 [term 0 (-1) 3] = some [term 0 (-1) 3] := by kernel_rfl
theorem tail03 (w n : Int) (l1 l2 : AV) : isTrueA (finishA env Tryz.f3 (rest ⟨term 0 (-1) 3, l1, l2, .ofNat 0⟩ w n ⟨117, ρ3 w n 0 (-1) 3, ⟨[z25], []⟩⟩)) = true := by kernel_rfl
theorem sub1 (d : Told) (w n : Int) : ∀ (ρ : Nat → AV) s, ρ 17 = scv (.int .i64 1) → actA env lim (cf w n d lim) ρ s (p 2) = some (scv (.int .i64 0), s) := by
  intro ρ s h
  have h' : actA env lim (cf w n d lim) ρ s (p 2) = actA env lim (cf w n d lim) (fun _ => ρ 17) s (p 2) := by kernel_rfl
  have h'' : actA env lim (cf w n d lim) (fun _ => scv (.int .i64 1)) s (p 2) = some (scv (.int .i64 0), s) := by kernel_rfl
  rw [h', h, h'']
theorem close10 : closeL [] 0 0 [term 1 0 0] = some [term 1 0 0] := by kernel_rfl
theorem tail10 (w n : Int) (l1 l2 : AV) : isTrueA (finishA env Tryz.f3 (rest ⟨term 1 0 0, l1, l2, .ofNat 0⟩ w n ⟨117, ρ3 w n 1 0 0, ⟨[z25], []⟩⟩)) = true := by kernel_rfl
theorem close11 : closeL [] 0 0 [term 1 0 1] = some [term 1 0 1] := by kernel_rfl
theorem tail11 (w n : Int) (l1 l2 : AV) : isTrueA (finishA env Tryz.f3 (rest ⟨term 1 0 1, l1, l2, .ofNat 0⟩ w n ⟨117, ρ3 w n 1 0 1, ⟨[z25], []⟩⟩)) = true := by kernel_rfl
theorem close12 : closeL [] 0 0 [term 1 0 2] = some [term 1 0 2] := by kernel_rfl
theorem tail12 (w n : Int) (l1 l2 : AV) : isTrueA (finishA env Tryz.f3 (rest ⟨term 1 0 2, l1, l2, .ofNat 0⟩ w n ⟨117, ρ3 w n 1 0 2, ⟨[z25], []⟩⟩)) = true := by kernel_rfl
theorem close13 : closeL [] 0 0 [term 1 0 3] = some [term 1 0 3] := by kernel_rfl
theorem tail13 (w n : Int) (l1 l2 : AV) : isTrueA (finishA env Tryz.f3 (rest ⟨term 1 0 3, l1, l2, .ofNat 0⟩ w n ⟨117, ρ3 w n 1 0 3, ⟨[z25], []⟩⟩)) = true := by kernel_rfl
theorem sub2 (d : Told) (w n : Int) : ∀ (ρ : Nat → AV) s, ρ 17 = scv (.int .i64 2) → actA env lim (cf w n d lim) ρ s (p 2) = some (scv (.int .i64 1), s) := by
  intro ρ s h
  have h' : actA env lim (cf w n d lim) ρ s (p 2) = actA env lim (cf w n d lim) (fun _ => ρ 17) s (p 2) := by kernel_rfl
  have h'' : actA env lim (cf w n d lim) (fun _ => scv (.int .i64 2)) s (p 2) = some (scv (.int .i64 1), s) := by kernel_rfl
  rw [h', h, h'']
theorem close20 : closeL [] 0 0 [term 2 1 0] = some [term 2 1 0] := by kernel_rfl
theorem tail20 (w n : Int) (l1 l2 : AV) : isTrueA (finishA env Tryz.f3 (rest ⟨term 2 1 0, l1, l2, .ofNat 4⟩ w n ⟨117, ρ3 w n 2 1 0, ⟨[z25], []⟩⟩)) = true := by kernel_rfl
theorem close21 : closeL [] 0 0 [term 2 1 1] = some [term 2 1 1] := by kernel_rfl
theorem tail21 (w n : Int) (l1 l2 : AV) : isTrueA (finishA env Tryz.f3 (rest ⟨term 2 1 1, l1, l2, .ofNat 4⟩ w n ⟨117, ρ3 w n 2 1 1, ⟨[z25], []⟩⟩)) = true := by kernel_rfl
theorem close22 : closeL [] 0 0 [term 2 1 2] = some [term 2 1 2] := by kernel_rfl
theorem tail22 (w n : Int) (l1 l2 : AV) : isTrueA (finishA env Tryz.f3 (rest ⟨term 2 1 2, l1, l2, .ofNat 4⟩ w n ⟨117, ρ3 w n 2 1 2, ⟨[z25], []⟩⟩)) = true := by kernel_rfl
theorem close23 : closeL [] 0 0 [term 2 1 3] = some [term 2 1 3] := by kernel_rfl
theorem tail23 (w n : Int) (l1 l2 : AV) : isTrueA (finishA env Tryz.f3 (rest ⟨term 2 1 3, l1, l2, .ofNat 4⟩ w n ⟨117, ρ3 w n 2 1 3, ⟨[z25], []⟩⟩)) = true := by kernel_rfl

end Go.Proofs.YteaholhenmneoaaGreatDoor.dnfLimits
