/-
  Slices of integers as arguments, with the datum.
-/
import Derived.Test.YtmipbilokjkjiaaGreatDoorWvF
set_option linter.unusedSimpArgs false
set_option linter.unusedVariables false
namespace Go.Tel
open Go.ChangeShapes Go.WideShapes Go.ChangeMaps
section
variable {H : Type} {enc : TypeId × Value → H} {P : Program} {W : World}
theorem ints_argU {t e : TypeId} {v : Value} {d : DataW H} {p : List MemPlace} (ht : P.underlying t = some (.slice e)) (he : P.underlying e = some (.int .i64)) (hc : P.cellsOf e = 1) (hb : P.bytesOf e = 8)
    {r : Reach} {b0 : Nat} (hval : Value.okWide P W r b0 t v) (h : DataW.Trod enc P W 0 (fun _ => true) true t v d p) :
    ∃ zs : List Int, V (Ghost.bare fun b _ => b < W.heap.size) W (.pv (.list (intRows zs))) v ∧
      (∀ W', Still W W' → ∀ sp : Nat → Bool, (∀ x ∈ p, sp x.block = true) → DataW.Trod enc P W' 0 sp true t v d p) ∧
      ((d.weights P t).all (· ≤ reachBytes) = true → zs.length < 2 ^ 44) ∧ (zs = [] ∨ ∃ el sp, d = .slice el sp ∧ zs.length ≤ el.length) := by
  obtain ⟨a, len, cap, rfl⟩ := okWide_slice ht hval
  obtain ⟨fuel, hf⟩ := h
  have hf0 := hf
  rcases open_ints ht he hc hf with ⟨hcs, hx⟩ | ⟨a', len', cap', zs, hcs, _, hl, hm, hz, hx, hcell, hwz⟩
  · simp only [Value.cells, List.cons.injEq, Value.slice.injEq, and_true] at hcs
    obtain ⟨rfl, rfl, rfl⟩ := hcs
    refine ⟨[], V_nil, fun W' _ sp _ => ?_, fun _ => by simp, .inl rfl⟩
    simp only [Prod.mk.injEq] at hx
    obtain ⟨rfl, rfl⟩ := hx
    refine ⟨1, ?_⟩
    rw [DataW.trod_step]
    unfold DataW.trodStep
    simp [ht, Value.cells]
  · obtain ⟨zs', V', T', _⟩ := ints_arg ht he hc hb hval ⟨fuel, hf0⟩
    simp only [Value.cells, List.cons.injEq, Value.slice.injEq, and_true] at hcs
    obtain ⟨rfl, rfl, rfl⟩ := hcs
    simp only [if_true] at hz
    simp only [Prod.mk.injEq] at hx
    obtain ⟨rfl, rfl⟩ := hx
    have hlen : (zs.take len).length = len := by simp; omega
    refine ⟨zs.take len, ?_, T', fun hw => ?_, .inr ⟨_, _, rfl, by simp [lits]⟩⟩
    · have := V_ints (W := W) (a := a') (cap := cap) (zs := zs.take len) (by omega) (fun i hi => by
        rw [hlen] at hi
        rw [hcell i (by omega)]
        simp [List.getD, List.getElem?_take, hi])
      rw [hlen] at this
      exact this
    · simp only [DataW.weights, ht, lits, List.length_map, List.all_cons, Bool.and_eq_true, decide_eq_true_eq, hb] at hw
      have h1 := hw.1
      simp only [List.length_take, List.length_drop, reachBytes] at h1
      simp only [List.length_take]
      omega
end
end Go.Tel
