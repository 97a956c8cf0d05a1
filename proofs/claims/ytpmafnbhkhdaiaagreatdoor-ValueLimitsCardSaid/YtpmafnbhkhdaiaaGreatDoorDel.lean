/-
  slices.Delete on a slice over a block of its own.
-/
import Derived.Test.YtpmafnbhkhdaiaaGreatDoorTab
import Derived.Test.YtpmafnbhkhdaiaaGreatDoorTenJ
import Derived.WalkKit
set_option linter.unusedSimpArgs false
set_option linter.unusedVariables false
namespace Go.Proofs.YtpmafnbhkhdaiaaGreatDoor
open Go.Tel Go.RowKit
theorem infoDel : (Tryz.prog.info? 149).map (fun i => (i.zero, i.size, i.bytes)) = some (some (.agg #[.slice none 0 0, .int .i64 0, .string .empty, .int .i64 0, .slice none 0 0]), 5, 80) := by kernel_rfl
set_option maxHeartbeats 2000000 in
set_option maxRecDepth 100000 in
theorem del_run (w : World) (b len cap : Nat) (vs : List Value) (e : TypeId) (i j : Nat) (hb : w.heap[b]? = some (.cells ⟨vs⟩ e (0, 0))) (hc : cap * 5 ≤ vs.length) (hlc : len ≤ cap) (hij : i < j) (hjl : j ≤ len)
    (hone : ∀ u ∈ vs.take (len * 5), u.oneCell' = true) :
    Calls Tryz.prog 138 #[.slice (some ⟨b, 0, none⟩) len cap, .int .i64 i, .int .i64 j] w fun e' w' => e' = .returned (.slice (some ⟨b, 0, none⟩) (i + (len - j)) cap) ∧
      w' = putRowB w.drew b (setV (setV vs (i * 5) ((vs.drop (j * 5)).take ((len - j) * 5))) ((i + (len - j)) * 5) (repl (j - i) [.slice none 0 0, .int .i64 0, .string .empty, .int .i64 0, .slice none 0 0])) e := by
  obtain ⟨i0, hi0, hz0, hz1, hz2⟩ := info_parts infoDel
  have hst : ∀ A : Addr, (A = ⟨b, 0, none⟩ ∧ cap = j) ∨ (A = ⟨b, j * 5, none⟩ ∧ cap ≠ j) → Hid ((Builtin.append_ #[142, 142] 142 #[.slice (some ⟨b, 0, none⟩) i cap, .slice (some A) (len - j) (cap - j)]).run Tryz.prog w.drew = .ok (.slice (some ⟨b, 0, none⟩) (i + (len - j)) cap) (putRowB w.drew b (setV vs (i * 5) ((vs.drop (j * 5)).take ((len - j) * 5))) e)) := by
    intro A hA
    have hlen : ((vs.drop (j * 5)).take ((len - j) * 5)).length = (len - j) * 5 := by simp; omega
    have hf : (Builtin.firstCells i0.size (len - j) (.slice (some A) (len - j) (cap - j))).run Tryz.prog w.drew = .ok ((vs.drop (j * 5)).take ((len - j) * 5)).toArray w.drew := by
      simp only [Builtin.firstCells, hz1]
      have h1 : ∀ (q : Nat) u, ((vs.drop (j * 5)).take ((len - j) * 5))[q]? = some u → w.drew.cell? ⟨b, j * 5 + q, none⟩ = some u := fun q u hq => by
        rw [List.getElem?_take] at hq
        split at hq
        · rw [List.getElem?_drop] at hq
          show w.cell? _ = _
          rw [cell_of_heap hb]
          exact hq
        · simp at hq
      rcases hA with ⟨rfl, h2⟩ | ⟨rfl, h2⟩
      · have h3 : len - j = 0 := by omega
        have := loadCells_run (P := Tryz.prog) (w := w.drew) (b := b) (o := 0) ((vs.drop (j * 5)).take ((len - j) * 5)) (fun q u hq => by
          rw [h3] at hq; simp at hq)
        rw [hlen] at this
        exact this
      · have := loadCells_run (P := Tryz.prog) (w := w.drew) (b := b) (o := j * 5) ((vs.drop (j * 5)).take ((len - j) * 5)) h1
        rw [hlen] at this
        exact this
    have h4 := Go.Tel.run_append_room (P := Tryz.prog) (w := w.drew) (t := 142) (u := 142) (elem := 149) (base := some ⟨b, 0, none⟩) (sLen := i) (sCap := cap) (n := len - j) (x := .slice (some A) (len - j) (cap - j)) 142 [] Tryz.underlying142 hi0 Tryz.underlying142
      (by intro k; simp) (by simp [Builtin.lenOf]) hf (by omega)
    simp only at h4
    have h5 := storeCells_run (P := Tryz.prog) (b := b) (o := i * 5) (e := e) ((vs.drop (j * 5)).take ((len - j) * 5)) 0 w.drew vs (fun u hu => hone u (by
      have h6 : (vs.drop (j * 5)).take ((len - j) * 5) = (vs.take (len * 5)).drop (j * 5) := by
        rw [List.drop_take]
        congr 1
        omega
      rw [h6] at hu
      exact List.mem_of_mem_drop hu)) hb (by rw [hlen]; omega)
    have h7 : (⟨b, 0, none⟩ : Addr).add (i * i0.size) = ⟨b, i * 5, none⟩ := by rw [hz1, addr_add, Nat.zero_add]
    rw [h7, h5] at h4
    simp only [Result.andThen, Nat.add_zero] at h4
    exact h4
  obtain ⟨A, hA, hAc⟩ : ∃ A : Addr, (if cap = j then some (⟨b, 0, none⟩ : Addr) else some ⟨b, j * 5, none⟩) = some A ∧ ((A = ⟨b, 0, none⟩ ∧ cap = j) ∨ (A = ⟨b, j * 5, none⟩ ∧ cap ≠ j)) := by
    by_cases h : cap = j
    · exact ⟨_, by simp [h], .inl ⟨rfl, h⟩⟩
    · exact ⟨_, by simp [h], .inr ⟨rfl, h⟩⟩
  have hap := hst A hAc
  clear hst
  have hzv : ∀ w, (zeroValue 149).run Tryz.prog w = .ok (.agg #[.slice none 0 0, .int .i64 0, .string .empty, .int .i64 0, .slice none 0 0]) w := fun w => by simp [zeroValue, Go.Tel.run_typeInfo hi0, hz0]
  have p1 : ¬ ((i : Int) = j) := by omega
  have p2 : (i : Int) ≤ j := by omega
  have p3 : (j : Int) ≤ len := by omega
  have p4 : (len : Int) ≤ cap := by omega
  have p5 : i ≤ cap := by omega
  have p6 : j ≤ cap := by omega
  go_enter Tryz.func138, Tryz.ntmps138
  go_wp2
  go_region_law (refine step_append rfl (.tmp 22) (.tmp 25) 142 142 rfl _ _ _ _ (by simp [Act.eval, Act.put]) (by simp [Act.eval, Act.put]) hap.out ?_)
  go_wp2
  have e1 : len - (i + (len - j)) = j - i := by omega
  rw [e1]
  have hlt : b < w.heap.size := lt_of_heap hb
  have hcl := run_clear (P := Tryz.prog) (w := putRowB w.drew b (setV vs (i * 5) ((vs.drop (j * 5)).take ((len - j) * 5))) e) (t := 142) (e := 149) (ty := 0) (z := .agg #[.slice none 0 0, .int .i64 0, .string .empty, .int .i64 0, .slice none 0 0])
    (vs := setV vs (i * 5) ((vs.drop (j * 5)).take ((len - j) * 5))) (et := e) Tryz.underlying142 hzv (zs := [.slice none 0 0, .int .i64 0, .string .empty, .int .i64 0, .slice none 0 0]) rfl (by simp)
    (by intro u hu; simp at hu; rcases hu with rfl | rfl | rfl | rfl | rfl <;> rfl) (b := b) (o := (i + (len - j)) * 5) (n := j - i) (c := cap - (i + (len - j))) (by omega)
    (by rw [heap_putRowB, if_pos rfl, if_pos (by simpa using hlt)]) (by rw [setV_length]; simp; omega)
  rw [hcl]
  simp only [Result.andThen]
  rw [Oper.upon_value]
  go_wp2
  go_ret
  refine ⟨rfl, ?_⟩
  simp [putRowB]
theorem delBody : Tryz.f138.body.isSome = true := by kernel_rfl
theorem delName : (Tryz.f138.name == "runtime.NumGoroutine") = false := by kernel_rfl
theorem delC : DelC Tryz.prog 138 [.slice none 0 0, .int .i64 0, .string .empty, .int .i64 0, .slice none 0 0] :=
  ⟨⟨_, Tryz.func138, delBody, delName⟩, by simp, fun w b len cap vs e i j h1 h2 h3 h4 h5 h6 => del_run w b len cap vs e i j h1 h2 h3 h4 h5 h6⟩
end Go.Proofs.YtpmafnbhkhdaiaaGreatDoor
