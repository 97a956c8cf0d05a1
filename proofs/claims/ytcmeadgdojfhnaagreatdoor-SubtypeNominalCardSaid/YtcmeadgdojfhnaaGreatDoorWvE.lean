/-
  Calls from a world whose arguments are slices of integers and strings.
-/
import Derived.Test.YtcmeadgdojfhnaaGreatDoorWvD
import Derived.ChangeSlices
set_option linter.unusedSimpArgs false
set_option linter.unusedVariables false
namespace Go.Tel
open Go.ChangeShapes Go.WideShapes
theorem callE_calls {E : Env} (hG : Good E) {f : FuncId} {args : List AV} {vs : List Value} {u : Value} {s' : Sto} {W : World} (hW : Globs E W) (hargs : VL (Ghost.bare fun b _ => b < W.heap.size) W args vs) (h : CallE E L0 f args ⟨[], []⟩ (.pv (.sc u)) s') :
    Calls E.P f vs.toArray W fun e w' => e = .returned u ∧ Still W w' := by
  obtain ⟨n, hn⟩ := h
  refine ((callN_sound hG n L0 f _ _ _ _ _ _ _ (hn n (Nat.le_refl n)) hW.inv hargs).2).mono ?_
  rintro e w' ⟨v', g', rfl, hv, hx, _⟩
  refine ⟨by rw [hv.scv_inv], hx.os, hx.output, fun b hb => (hx.out b hb (fun _ e => by simp [Ghost.bare] at e) (fun _ _ e => by simp [Ghost.bare] at e) (fun _ e => by simp [Ghost.bare] at e)).1⟩
theorem V_int {g : Ghost} {w : World} (n : Int) : V g w (I64 n) (.int .i64 n) := .pv (.sc _)
theorem V_nil {g : Ghost} {w : World} : V g w (.pv (.list (intRows []))) (.slice none 0 0) :=
  .pv (VP.of_rows (rows := []) (b := 0) (o := 0) (sz := 0) (f := fun _ _ => undef) RowsAt.nil (Nat.le_refl 0))
theorem V_ints {W : World} {a : Addr} {cap : Nat} {zs : List Int} (hcap : zs.length ≤ cap) (hcell : ∀ i, i < zs.length → W.cell? (a.add i) = some (.int .i64 (zs.getD i 0))) :
    V (Ghost.bare fun b _ => b < W.heap.size) W (.pv (.list (intRows zs))) (.slice (some a) zs.length cap) := by
  obtain ⟨b, off, spot⟩ := a
  have hspot : zs ≠ [] → spot = none := fun hne => by
    cases hz : zs with
    | nil => grind
    | cons z0 z => simpa [Addr.add] using World.cell?_spot (hcell 0 (by grind))
  have get : ∀ i z, zs[i]? = some z → W.cell? ⟨b, off + i, none⟩ = some (.int .i64 z) := fun i z hs => by
    have hsp := hspot (fun e => by grind)
    grind[addr_add]
  have := VP.of_rows (I := fun b _ => b < W.heap.size) (w := W) (rows := intRows zs) (base := some ⟨b, off, spot⟩) (b := b) (o := off) (sz := 1) (f := fun i _ => .int .i64 (zs.getD i 0)) (cap := cap)
    ⟨fun row hr => by
        obtain ⟨s, _, rfl⟩ := List.mem_map.1 hr
        rfl,
      fun hne _ => by simp_all[intRows],
      fun i row j c hr hj => by
        simp only [intRows, List.getElem?_map] at hr
        cases hs : zs[i]? with
        | none => grind
        | some s =>
          simp [hs] at hr; subst hr
          have hj0 : j = 0 := by grind
          subst hj0
          have hc' := get i s hs
          refine ⟨lt_of_cell hc', ?_⟩
          grind,
      fun i row j c hr hj => by
        simp only [intRows, List.getElem?_map] at hr
        cases hs : zs[i]? with
        | none => grind
        | some s =>
          simp [hs] at hr; subst hr
          have hj0 : j = 0 := by grind
          subst hj0
          simp at hj; subst hj
          simp only [List.getD, hs, Option.getD_some]
          exact .sc _⟩ (by grind[intRows])
  rw [intRows_len] at this
  exact .pv this
end Go.Tel
