/-
  Arguments of a card: slices of integers, strings; what they hold, and that they read as before.
-/
import Derived.Test.YtcmeadgdojfhnaaGreatDoorWvE
import Derived.ChangeMaps5
set_option linter.unusedSimpArgs false
set_option linter.unusedVariables false
namespace Go.Tel
open Go.ChangeShapes Go.WideShapes Go.ChangeMaps
section
variable {H : Type} {enc : TypeId × Value → H} {P : Program} {W : World}
theorem ints_arg {t e : TypeId} {v : Value} {d : DataW H} {p : List MemPlace} (ht : P.underlying t = some (.slice e)) (he : P.underlying e = some (.int .i64)) (hc : P.cellsOf e = 1) (hb : P.bytesOf e = 8)
    {r : Reach} {b0 : Nat} (hval : Value.okWide P W r b0 t v) (h : DataW.Trod enc P W 0 (fun _ => true) true t v d p) :
    ∃ zs : List Int, V (Ghost.bare fun b _ => b < W.heap.size) W (.pv (.list (intRows zs))) v ∧
      (∀ W', Still W W' → ∀ sp : Nat → Bool, (∀ x ∈ p, sp x.block = true) → DataW.Trod enc P W' 0 sp true t v d p) ∧
      ((d.weights P t).all (· ≤ reachBytes) = true → zs.length < 2 ^ 61) := by
  obtain ⟨a, len, cap, rfl⟩ := okWide_slice ht hval
  obtain ⟨fuel, hf⟩ := h
  have hf0 := hf
  rcases open_ints ht he hc hf with ⟨hcs, hx⟩ | ⟨a', len', cap', zs, hcs, _, hl, hm, hz, hx, hcell, hwz⟩
  · simp only [Value.cells, List.cons.injEq, Value.slice.injEq, and_true] at hcs
    obtain ⟨rfl, rfl, rfl⟩ := hcs
    refine ⟨[], V_nil, fun W' _ sp _ => ?_, fun _ => by simp⟩
    simp only [Prod.mk.injEq] at hx
    obtain ⟨rfl, rfl⟩ := hx
    refine ⟨1, ?_⟩
    simp[*,DataW.trod_step,DataW.trodStep,Value.cells]
  · simp only [Value.cells, List.cons.injEq, Value.slice.injEq, and_true] at hcs
    obtain ⟨rfl, rfl, rfl⟩ := hcs
    simp only [if_true] at hz
    simp only [Prod.mk.injEq] at hx
    obtain ⟨rfl, rfl⟩ := hx
    have hlen : (zs.take len).length = len := by grind
    refine ⟨zs.take len, ?_, fun W' hst sp hsp => ?_, fun hw => ?_⟩
    · grind[V_ints]
    · refine ⟨0 + 2, shut_ints 0 ht he hc (Nat.zero_le _) hl hm ?_ (fun i hi => ?_) hwz⟩
      · by_cases h0 : zs.length = 0
        · grind
        · have : sp a'.block = true := hsp (.cell a'.block (a'.off + 0)) (List.mem_map.2 ⟨0, List.mem_range.2 (by omega), rfl⟩)
          grind
      · have := hcell i hi
        have hlt := World.block_lt_of_cell? _ _ this
        rw [← this]
        unfold World.cell?
        rw [hst.heap _ hlt]
    grind[DataW.weights,lits,reachBytes]
theorem ints_argR {t e : TypeId} {v : Value} {d : DataW H} {p : List MemPlace} (ht : P.underlying t = some (.slice e)) (he : P.underlying e = some (.int .i64)) (hc : P.cellsOf e = 1) (hb : P.bytesOf e = 8)
    {r : Reach} {b0 : Nat} (hval : Value.okWide P W r b0 t v) (h : DataW.Trod enc P W 0 (fun _ => true) true t v d p) :
    ∃ zs : List Int, V (Ghost.bare fun b _ => b < W.heap.size) W (.pv (.list (intRows zs))) v ∧
      (∀ W', Still W W' → ∀ sp : Nat → Bool, (∀ x ∈ p, sp x.block = true) → DataW.Trod enc P W' 0 sp true t v d p) ∧
      ((d.weights P t).all (· ≤ reachBytes) = true → zs.length < 2 ^ 44) := by
  obtain ⟨a, len, cap, rfl⟩ := okWide_slice ht hval
  obtain ⟨fuel, hf⟩ := h
  have hf0 := hf
  rcases open_ints ht he hc hf with ⟨hcs, hx⟩ | ⟨a', len', cap', zs, hcs, _, hl, hm, hz, hx, hcell, hwz⟩
  · simp only [Value.cells, List.cons.injEq, Value.slice.injEq, and_true] at hcs
    obtain ⟨rfl, rfl, rfl⟩ := hcs
    refine ⟨[], V_nil, fun W' _ sp _ => ?_, fun _ => by simp⟩
    simp only [Prod.mk.injEq] at hx
    obtain ⟨rfl, rfl⟩ := hx
    refine ⟨1, ?_⟩
    simp[*,DataW.trod_step,DataW.trodStep,Value.cells]
  · obtain ⟨zs', V', T', _⟩ := ints_arg ht he hc hb hval ⟨fuel, hf0⟩
    simp only [Value.cells, List.cons.injEq, Value.slice.injEq, and_true] at hcs
    obtain ⟨rfl, rfl, rfl⟩ := hcs
    simp only [if_true] at hz
    simp only [Prod.mk.injEq] at hx
    obtain ⟨rfl, rfl⟩ := hx
    have hlen : (zs.take len).length = len := by grind
    refine ⟨zs.take len, ?_, T', fun hw => ?_⟩
    all_goals grind[V_ints,DataW.weights,lits,reachBytes]
theorem int_arg {t : TypeId} {v : Value} {d : DataW H} {p : List MemPlace} (ht : P.underlying t = some (.int .i64)) {r : Reach} {b0 : Nat} (hval : Value.okWide P W r b0 t v) (h : DataW.Trod enc P W 0 (fun _ => true) true t v d p) :
    ∃ n : Int, v = .int .i64 n ∧ V (Ghost.bare fun b _ => b < W.heap.size) W (I64 n) v ∧ (Lit.int .i64 n).wf = true ∧
      (∀ W', ∀ sp : Nat → Bool, DataW.Trod enc P W' 0 sp true t v d p) := by grind[open_int,V_int,shut_int]
end
end Go.Tel
