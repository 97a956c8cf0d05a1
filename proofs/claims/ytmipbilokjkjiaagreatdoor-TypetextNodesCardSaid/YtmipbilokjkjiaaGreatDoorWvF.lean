/-
  Arguments of a card: slices of integers, strings; what they hold, and that they read as before.
-/
import Derived.Test.YtmipbilokjkjiaaGreatDoorWvE
import Derived.ChangeMaps5
set_option linter.unusedSimpArgs false
set_option linter.unusedVariables false
namespace Go.Tel
open Go.ChangeShapes Go.WideShapes Go.ChangeMaps
theorem weights_all {α : Type} {f : α → Bool} {l m : List α} (h : (l ++ m).all f = true) : l.all f = true ∧ m.all f = true := by
  simpa [List.all_append] using h
section
variable {H : Type} {enc : TypeId × Value → H} {P : Program} {W : World}
/-- A slice of integers. -/
theorem ints_arg {t e : TypeId} {v : Value} {d : DataW H} {p : List MemPlace} (ht : P.underlying t = some (.slice e)) (he : P.underlying e = some (.int .i64)) (hc : P.cellsOf e = 1) (hb : P.bytesOf e = 8)
    {r : Reach} {b0 : Nat} (hval : Value.okWide P W r b0 t v) (h : DataW.Trod enc P W 0 (fun _ => true) true t v d p) :
    ∃ zs : List Int, V (Ghost.bare fun b _ => b < W.heap.size) W (.pv (.list (intRows zs))) v ∧
      (∀ W', Still W W' → ∀ sp : Nat → Bool, (∀ x ∈ p, sp x.block = true) → DataW.Trod enc P W' 0 sp true t v d p) ∧
      ((d.weights P t).all (· ≤ reachBytes) = true → zs.length < 2 ^ 61) := by
  obtain ⟨a, len, cap, rfl⟩ := okWide_slice ht hval
  obtain ⟨fuel, hf⟩ := h
  have hf0 := hf
  rcases open_ints ht he hc hf with ⟨hcs, hx⟩ | ⟨a', len', cap', zs, hcs, _, hl, hm, hz, hx, hcell, hwz⟩
  · simp only [Value.cells, List.cons.injEq, Value.slice.injEq, and_true] at hcs
    obtain ⟨rfl, rfl, rfl⟩ := hcs
    refine ⟨[], V_nil, fun W' _ sp _ => ?_, fun _ => by simp⟩
    simp only [Prod.mk.injEq] at hx
    obtain ⟨rfl, rfl⟩ := hx
    refine ⟨1, ?_⟩
    rw [DataW.trod_step]
    unfold DataW.trodStep
    simp [ht, Value.cells]
  · simp only [Value.cells, List.cons.injEq, Value.slice.injEq, and_true] at hcs
    obtain ⟨rfl, rfl, rfl⟩ := hcs
    simp only [if_true] at hz
    simp only [Prod.mk.injEq] at hx
    obtain ⟨rfl, rfl⟩ := hx
    have hlen : (zs.take len).length = len := by simp; omega
    refine ⟨zs.take len, ?_, fun W' hst sp hsp => ?_, fun hw => ?_⟩
    · have := V_ints (W := W) (a := a') (cap := cap) (zs := zs.take len) (by omega) (fun i hi => by
        rw [hlen] at hi
        rw [hcell i (by omega)]
        simp [List.getD, List.getElem?_take, hi])
      rw [hlen] at this
      exact this
    · refine ⟨0 + 2, shut_ints 0 ht he hc (Nat.zero_le _) hl hm ?_ (fun i hi => ?_) hwz⟩
      · by_cases h0 : zs.length = 0
        · split <;> omega
        · have : sp a'.block = true := hsp (.cell a'.block (a'.off + 0)) (List.mem_map.2 ⟨0, List.mem_range.2 (by omega), rfl⟩)
          rw [if_pos this]; exact hz
      · have := hcell i hi
        have hlt := World.block_lt_of_cell? _ _ this
        rw [← this]
        unfold World.cell?
        rw [hst.heap _ hlt]
    · simp only [DataW.weights, ht, lits, List.length_map, List.all_cons, Bool.and_eq_true, decide_eq_true_eq, hb] at hw
      have h1 := hw.1
      simp only [List.length_take, List.length_drop, reachBytes] at h1
      simp only [List.length_take]
      omega
/-- The bound on a slice of integers, as the form's reach gives it. -/
theorem ints_argR {t e : TypeId} {v : Value} {d : DataW H} {p : List MemPlace} (ht : P.underlying t = some (.slice e)) (he : P.underlying e = some (.int .i64)) (hc : P.cellsOf e = 1) (hb : P.bytesOf e = 8)
    {r : Reach} {b0 : Nat} (hval : Value.okWide P W r b0 t v) (h : DataW.Trod enc P W 0 (fun _ => true) true t v d p) :
    ∃ zs : List Int, V (Ghost.bare fun b _ => b < W.heap.size) W (.pv (.list (intRows zs))) v ∧
      (∀ W', Still W W' → ∀ sp : Nat → Bool, (∀ x ∈ p, sp x.block = true) → DataW.Trod enc P W' 0 sp true t v d p) ∧
      ((d.weights P t).all (· ≤ reachBytes) = true → zs.length < 2 ^ 44) := by
  obtain ⟨a, len, cap, rfl⟩ := okWide_slice ht hval
  obtain ⟨fuel, hf⟩ := h
  have hf0 := hf
  rcases open_ints ht he hc hf with ⟨hcs, hx⟩ | ⟨a', len', cap', zs, hcs, _, hl, hm, hz, hx, hcell, hwz⟩
  · simp only [Value.cells, List.cons.injEq, Value.slice.injEq, and_true] at hcs
    obtain ⟨rfl, rfl, rfl⟩ := hcs
    refine ⟨[], V_nil, fun W' _ sp _ => ?_, fun _ => by simp⟩
    simp only [Prod.mk.injEq] at hx
    obtain ⟨rfl, rfl⟩ := hx
    refine ⟨1, ?_⟩
    rw [DataW.trod_step]
    unfold DataW.trodStep
    simp [ht, Value.cells]
  · obtain ⟨zs', V', T', _⟩ := ints_arg ht he hc hb hval ⟨fuel, hf0⟩
    simp only [Value.cells, List.cons.injEq, Value.slice.injEq, and_true] at hcs
    obtain ⟨rfl, rfl, rfl⟩ := hcs
    simp only [if_true] at hz
    simp only [Prod.mk.injEq] at hx
    obtain ⟨rfl, rfl⟩ := hx
    have hlen : (zs.take len).length = len := by simp; omega
    refine ⟨zs.take len, ?_, T', fun hw => ?_⟩
    · have := V_ints (W := W) (a := a') (cap := cap) (zs := zs.take len) (by omega) (fun i hi => by
        rw [hlen] at hi
        rw [hcell i (by omega)]
        simp [List.getD, List.getElem?_take, hi])
      rw [hlen] at this
      exact this
    · simp only [DataW.weights, ht, lits, List.length_map, List.all_cons, Bool.and_eq_true, decide_eq_true_eq, hb] at hw
      have h1 := hw.1
      simp only [List.length_take, List.length_drop, reachBytes] at h1
      simp only [List.length_take]
      omega
/-- A string. -/
theorem str_arg {t : TypeId} {v : Value} {d : DataW H} {p : List MemPlace} (ht : P.underlying t = some .string) {r : Reach} {b0 : Nat} (hval : Value.okWide P W r b0 t v) (h : DataW.Trod enc P W 0 (fun _ => true) true t v d p) :
    ∃ s : ByteArray, v = .string s ∧ V (Ghost.bare fun b _ => b < W.heap.size) W (SS s.data.toList) v ∧
      (∀ W', ∀ sp : Nat → Bool, DataW.Trod enc P W' 0 sp true t v d p) ∧
      ((d.weights P t).all (· ≤ reachBytes) = true → s.data.toList.length < 2 ^ 60) := by
  obtain ⟨s, rfl, rfl, rfl, hs⟩ := open_string ht hval h
  refine ⟨s, rfl, V_str s, fun W' sp => shut_string ht hs, fun hw => ?_⟩
  simp only [DataW.weights, List.all_cons, Bool.and_eq_true, decide_eq_true_eq] at hw
  have h1 := hw.1
  unfold reachBytes at h1
  omega
/-- An integer. -/
theorem int_arg {t : TypeId} {v : Value} {d : DataW H} {p : List MemPlace} (ht : P.underlying t = some (.int .i64)) {r : Reach} {b0 : Nat} (hval : Value.okWide P W r b0 t v) (h : DataW.Trod enc P W 0 (fun _ => true) true t v d p) :
    ∃ n : Int, v = .int .i64 n ∧ V (Ghost.bare fun b _ => b < W.heap.size) W (I64 n) v ∧ (Lit.int .i64 n).wf = true ∧
      (∀ W', ∀ sp : Nat → Bool, DataW.Trod enc P W' 0 sp true t v d p) := by
  obtain ⟨n, rfl, rfl, rfl, hw⟩ := open_int ht hval h
  exact ⟨n, rfl, V_int n, hw, fun W' sp => shut_int ht hw⟩
end
end Go.Tel
