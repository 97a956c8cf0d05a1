/-
  strings.Builder: copyCheck and String keep the contracts that the evaluator leans on.
-/
import Derived.Test.YtmipbilokjkjiaaGreatDoorTab
import Derived.WalkKit
import Derived.Lib.Builder
import Derived.Lib.UnsafeStr
import Derived.Laws.Externs
set_option linter.unusedSimpArgs false
set_option linter.unusedVariables false
namespace Go.Proofs.YtmipbilokjkjiaaGreatDoor
open Go.Tel Go.RowKit
theorem sizeB : (Tryz.prog.info? 69).map (fun i => i.size) = some 2 := by kernel_rfl
theorem cellsB : Tryz.prog.cellsOf 5 = 1 := by kernel_rfl
theorem liesBa : liesAt Tryz.prog Tryz.prog.depth 69 (2 / Tryz.prog.cellsOf 69) 0 69 1 = true := by kernel_rfl
theorem liesBb : liesAt Tryz.prog Tryz.prog.depth 71 (3 / Tryz.prog.cellsOf 71) 0 69 1 = true := by kernel_rfl
set_option maxHeartbeats 1000000 in
set_option maxRecDepth 100000 in
theorem copy_used (w : World) (b : Nat) (h0 : w.cell? ⟨b, 0, none⟩ = some (.pointer (some ⟨b, 0, none⟩))) :
    Calls Tryz.prog 82 #[.pointer (some ⟨b, 0, none⟩)] w fun e w' => e = .returned (.tuple #[]) ∧ w' = w := by
  obtain ⟨j, hj, _⟩ := aLs0117.1 sizeB
  go_enter Tryz.func82, Tryz.ntmps82
  go_wp2
  rw [Lib.run_neq_ptr_same w _ Tryz.underlying66 hj]
  go_wp2
  go_end0
  exact ⟨rfl, rfl⟩
set_option maxHeartbeats 1000000 in
set_option maxRecDepth 100000 in
theorem copy_fresh (t n : Nat) (hl : liesAt Tryz.prog Tryz.prog.depth t (n / Tryz.prog.cellsOf t) 0 69 1 = true) (hn : 0 < n) (w : World) (b : Nat) (h0 : w.cell? ⟨b, 0, none⟩ = some (.pointer none)) (hsh : w.shape? b = some (t, n)) (hfz : w.frozen? ⟨b, 0, none⟩ = false) :
    Calls Tryz.prog 82 #[.pointer (some ⟨b, 0, none⟩)] w fun e w' => e = .returned (.tuple #[]) ∧ w' = w.setCell ⟨b, 0, none⟩ (.pointer (some ⟨b, 0, none⟩)) := by
  obtain ⟨j, hj, hjs⟩ := aLs0117.1 sizeB
  go_enter Tryz.func82, Tryz.ntmps82
  go_wp2
  rw [Lib.run_to_unsafe w ⟨b, 0, none⟩ Tryz.underlying66 Tryz.underlying138 hj (by rw [hjs]; decide) hsh hn]
  simp only [Result.andThen]
  rw [Oper.upon_value]
  go_wp2
  rw [run_callFunc_extern Tryz.func106 (by kernel_rfl) (by kernel_rfl) (by kernel_rfl) (e := Extern.AbiNoEscape.same) (by kernel_rfl)]
  rw [Lib.run_noEscape]
  simp only [Result.andThen]
  rw [Oper.upon_value]
  go_wp2
  rw [Lib.run_from_unsafe w ⟨b, 0, none⟩ Tryz.underlying138 Tryz.underlying66 hj hsh hl]
  simp only [Result.andThen]
  rw [Oper.upon_value]
  go_wp2
  go_end0
  exact ⟨rfl, rfl⟩
set_option maxHeartbeats 2000000 in
set_option maxRecDepth 100000 in
theorem str_call (w : World) (b g cap : Nat) (cur : Array Value) (fz : Nat × Nat) (l : List UInt8) (h0 : l ≠ []) (hc : l.length ≤ cap) (h63 : l.length ≤ 9223372036854775807) (c1 : w.cell? ⟨b, 1, none⟩ = some (.slice (some ⟨g, 0, none⟩) l.length cap))
    (hg : w.heap[g]? = some (.cells cur 5 fz)) (hn : l.length ≤ cur.size) (hcell : ∀ j x, l[j]? = some x → w.cell? ⟨g, j, none⟩ = some (.int .u8 x.toNat)) :
    Calls Tryz.prog 31 #[.pointer (some ⟨b, 0, none⟩)] w fun e w' => e = .returned (.string ⟨l.toArray⟩) ∧ w' = (drewW w).freeze ⟨g, 0, none⟩ l.length := by
  have hl0 : l.length ≠ 0 := by simpa using h0
  have c1' : w.drew.cell? ⟨b, 1, none⟩ = some (.slice (some ⟨g, 0, none⟩) l.length cap) := c1
  have hSD : (Builtin.unsafeSliceData_ #[67] 109 #[.slice (some ⟨g, 0, none⟩) l.length cap]).run Tryz.prog w.drew = .ok (.pointer (some ⟨g, 0, none⟩)) w.drew :=
    Lib.run_unsafeSliceData_row _ _ _ _ _ _ (by omega)
  have hUS : (Builtin.unsafeString_ #[109, 3] 9 #[.pointer (some ⟨g, 0, none⟩), .int .i64 l.length]).run Tryz.prog w.drew = .ok (.string ⟨l.toArray⟩) (w.drew.freeze ⟨g, 0, none⟩ l.length) := by
    refine Lib.run_unsafeString_row w.drew 109 3 9 5 Tryz.underlying109 cellsB g cur.size (by have hg' : w.drew.heap[g]? = some (.cells cur 5 fz) := hg; simp [World.shape?, hg']) l h0 hn h63 ?_
    intro j x hx
    rw [addr_add]
    simpa using hcell j x hx
  go_enter Tryz.func31, Tryz.ntmps31
  go_wp2
  go_region
  all_goals (go_wp2; go_ret; exact ⟨rfl, rfl⟩)
theorem body82 : HasBody Tryz.prog 82 := ⟨_, Tryz.func82, by kernel_rfl, by kernel_rfl⟩
theorem body31 : HasBody Tryz.prog 31 := ⟨_, Tryz.func31, by kernel_rfl, by kernel_rfl⟩
theorem copyC : CopyC Tryz.prog 82 okB where
  body := body82
  fresh := fun t n h w b h0 hsh hfz => by
    unfold okB at h
    simp only [aLs0029, aLs0002] at h
    rcases h with ⟨h1, h2⟩ | ⟨h1, h2⟩
    · have := aLs0007 h1; subst this
      have := aLs0007 h2; subst this
      exact copy_fresh _ _ liesBa (by omega) w b h0 hsh hfz
    · have := aLs0007 h1; subst this
      have := aLs0007 h2; subst this
      exact copy_fresh _ _ liesBb (by omega) w b h0 hsh hfz
  used := copy_used
theorem strC : StrC Tryz.prog 31 5 := ⟨body31, fun w b g cap cur fz l h0 hc h63 c1 hg hn hcell => str_call w b g cap cur fz l h0 hc h63 c1 hg hn hcell⟩
end Go.Proofs.YtmipbilokjkjiaaGreatDoor
