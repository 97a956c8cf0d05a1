/-
  Single operations, part 3: structs, slices of rows, append.
-/
import Derived.Test.YtedmfigcajdkbaaGreatDoorTelD
namespace Go.Tel

theorem fold_set (us : List Value) : ∀ (vs : List Value) (off j : Nat),
    ((us.toArray.zipIdx j).foldl (fun (cs : Array Value) (p : Value × Nat) => cs.setIfInBounds (off + p.2) p.1) ⟨vs⟩) = ⟨setV vs (off + j) us⟩ := by
  induction us with
  | nil => intro vs off j; rw [← Array.foldl_toList]; simp [setV]
  | cons u us ih =>
    intro vs off j
    have := ih (vs.set (off + j) u) off (j + 1)
    rw [← Array.foldl_toList] at this ⊢
    simp only [Array.toList_zipIdx, List.zipIdx_cons, List.foldl_cons, setV, List.setIfInBounds_toArray] at this ⊢
    rw [this]
    rfl

theorem fill_sound {g : Ghost} {w : World} {place : Nat → Option (Nat × Nat)} (parts : List (Nat × AV)) : ∀ {ps : List (Nat × Value)} {cs cs' : List AV} {vs : List Value},
    parts.map (·.1) = ps.map (·.1) → (∀ (i : Nat) (p : Nat × AV) (q : Nat × Value), parts[i]? = some p → ps[i]? = some q → V g w p.2 q.2) → VL g w cs vs →
    fillA place cs parts = some cs' → ∃ vs', Instr.fill place ⟨vs⟩ ps = some ⟨vs'⟩ ∧ VL g w cs' vs' := by
  induction parts with
  | nil =>
    intro ps cs cs' vs hk _ hl h
    have : ps = [] := by simpa using hk.symm
    subst this
    simp [fillA] at h; subst h
    exact ⟨vs, rfl, hl⟩
  | cons p parts ih =>
    intro ps cs cs' vs hk hv hl h
    cases ps with
    | nil => simp at hk
    | cons q ps =>
      obtain ⟨i, x⟩ := p
      obtain ⟨i', y⟩ := q
      simp at hk
      obtain ⟨rfl, hk⟩ := hk
      simp only [fillA] at h
      simp only [Instr.fill]
      cases hp : place i with
      | none => simp [hp] at h
      | some os =>
        obtain ⟨off, size⟩ := os
        simp only [hp] at h
        split at h
        · rename_i hn
          obtain ⟨h1, h2, hok⟩ := hn
          have hxy : V g w x y := hv 0 (i, x) (i, y) rfl rfl
          have hc := cellsOf_sound hxy hok
          have hlen : y.cells.size = (cellsOf x).length := by rw [hc.len]; simp
          have hvl := hl.len
          have hif : (decide (y.cells.size ≠ size) || decide (off + y.cells.size > (⟨vs⟩ : Array Value).size)) = false := by
            simp [hlen, h1]; omega
          simp only [hif, Bool.false_eq_true, if_false]
          have e := fold_set y.cells.toList vs off 0
          simp only [Array.toArray_toList, Nat.add_zero] at e
          rw [e]
          exact ih hk (fun j p q hp hq => hv (j + 1) p q (by simpa using hp) (by simpa using hq)) (VL.setCells off hl hc) h
        · simp at h

theorem zeroOf_sound {P : Program} {g : Ghost} {w : World} {t : TypeId} {z : List AV} (h : zeroOf P t = some z) :
    ∃ i v, P.info? t = some i ∧ i.zero = some v ∧ (zeroValue t).run P w = .ok v w ∧ VL g w z v.cells.toList := by
  unfold zeroOf at h
  split at h
  · rename_i i hi
    split at h
    · rename_i v hv
      simp at h; subst h
      refine ⟨i, v, hi, hv, by simp [zeroValue, run_typeInfo hi, hv], ?_⟩
      cases v with
      | agg cs => exact VL.map V.ofCell cs.toList
      | tuple vs => exact .cons (V.tuple' (VL.scvs vs.toList)) .nil
      | slice a n c =>
        have : cellsOf (ofConst (.slice a n c)) = [ofCell (.slice a n c)] := by
          simp only [ofConst, ofCell]
          split <;> rfl
        rw [this]
        exact .cons (V.ofCell _) .nil
      | _ => exact .cons (V.scv _) .nil
    · simp at h
  · simp at h

theorem map_parts {g : Ghost} {w : World} {ρ : Nat → AV} {a : Act} (hρ : ∀ t, V g w (ρ t) (a.tmps.getD t undef)) (parts : Array (Nat × Operand)) :
    (parts.toList.map fun p => (p.1, evalO ρ p.2)).map (·.1) = ((parts.map fun (i, x) => (i, a.eval x)).toList).map (·.1) ∧
    ∀ (i : Nat) p q, (parts.toList.map fun p => (p.1, evalO ρ p.2))[i]? = some p → ((parts.map fun (i, x) => (i, a.eval x)).toList)[i]? = some q → V g w p.2 q.2 := by
  constructor
  · simp
  · intro i p q hp hq
    simp only [Array.toList_map, List.getElem?_map] at hp hq
    cases h : parts.toList[i]? with
    | none => simp [h] at hp
    | some r =>
      simp [h] at hp hq
      subst hp; subst hq
      exact evalO_sound hρ r.2

end Go.Tel
