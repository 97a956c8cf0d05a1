/-
  Single operations, part 6: append, what it reads and how it runs.
-/
import Derived.Test.YtedmfigcajdkbaaGreatDoorTelG
namespace Go.Tel

theorem flatten_get {α : Type} {k : Nat} (hk : k ≠ 0) (rows : List (List α)) (h : ∀ r ∈ rows, r.length = k) : ∀ q : Nat, rows.flatten[q]? = (rows[q / k]?).bind (fun r => r[q % k]?) := by
  induction rows with
  | nil => intro q; simp
  | cons r rows ih =>
    intro q
    have hr : r.length = k := h r (by simp)
    rw [List.flatten_cons]
    rcases Nat.lt_or_ge q k with hq | hq
    · rw [List.getElem?_append_left (by omega), Nat.div_eq_of_lt hq, Nat.mod_eq_of_lt hq]
      simp
    · rw [List.getElem?_append_right (by omega), ih (fun r hr => h r (by simp [hr])), hr]
      have e1 : q / k = (q - k) / k + 1 := Nat.div_eq_sub_div (by omega) hq
      have e2 : (q - k) % k = q % k := by rw [← Nat.mod_eq_sub_mod hq]
      rw [e1, e2]
      simp

theorem flatten_length {α : Type} {k : Nat} (rows : List (List α)) (h : ∀ r ∈ rows, r.length = k) : rows.flatten.length = rows.length * k := by
  induction rows with
  | nil => simp
  | cons r rows ih =>
    rw [List.flatten_cons, List.length_append, ih (fun r hr => h r (by simp [hr])), h r (by simp), List.length_cons, Nat.add_mul]
    omega

/-- Rows laid flat, as values. -/
theorem Flat.vl {g : Ghost} {w : World} {rows : List (List PV)} {k : Nat} {us : List Value} (h : Flat g.I w rows k us) (hk : k ≠ 0) : VL g w (rows.flatten.map .pv) us := by
  refine ⟨by rw [List.length_map, flatten_length rows h.hsz, h.len], fun q c v h1 h2 => ?_⟩
  rw [List.getElem?_map, flatten_get hk rows h.hsz] at h1
  cases hr : rows[q / k]? with
  | none => simp [hr] at h1
  | some row =>
    cases hj : row[q % k]? with
    | none => simp [hr, hj] at h1
    | some p =>
      simp [hr, hj] at h1; subst h1
      obtain ⟨u, h3, h4⟩ := h.at_ (q / k) row (q % k) p hr hj
      rw [show q / k * k + q % k = q by have := Nat.div_add_mod q k; rw [Nat.mul_comm] at this; omega] at h3
      rw [h2] at h3; simp at h3; subst h3
      exact .pv h4

theorem all_len {rows : List (List PV)} {k : Nat} (h : (rows.all fun r => r.length == k) = true) : ∀ r ∈ rows, r.length = k := fun r hr => by
  have := List.all_eq_true.1 h r hr; simpa using this

/-- Rows whose lengths are known, read flat. -/
theorem RowsAt.flat' {I : Nat → Nat → Prop} {w : World} {rows : List (List PV)} {base : Option Addr} {b o sz k : Nat} {f : Nat → Nat → Value} (h : RowsAt I w rows base b o sz f) (hk : k ≠ 0)
    (hl : ∀ r ∈ rows, r.length = k) (cap : Nat) : ∃ us, Flat I w rows k us ∧ (∀ q u, us[q]? = some u → I b (o + q) ∧ w.cell? ⟨b, o + q, none⟩ = some u) ∧ ∀ (P : Program) (w' : World), w'.heap = w.heap → (Builtin.firstCells k rows.length (.slice base rows.length cap)).run P w' = .ok (List.toArray us) w' := by
  by_cases hne : rows = []
  · subst hne
    refine ⟨[], ⟨by simp, by simp, by simp⟩, by simp, fun P w' _ => ?_⟩
    cases base with
    | none => simp [Builtin.firstCells]
    | some a => simp [Builtin.firstCells, loadCells, loadCellsFrom]
  · obtain ⟨r, rs, rfl⟩ : ∃ r rs, rows = r :: rs := by cases rows with | nil => exact absurd rfl hne | cons r rs => exact ⟨r, rs, rfl⟩
    have hsk : sz = k := by rw [← h.hsz r (by simp)]; exact hl r (by simp)
    subst hsk
    obtain ⟨us, hf, hc⟩ := h.flat hk
    refine ⟨us, hf, hc, fun P w' hw' => ?_⟩
    rw [h.hbase hne hk]
    simp only [Builtin.firstCells]
    rw [← hf.len]
    exact loadCells_run us (fun j u hj => (cell?_congr (w := w) (w' := w') (by rw [hw']) (o + j)).trans (hc j u hj).2)

theorem srcCells_sound {E : Env} {g : Ghost} {w : World} {s : Sto} (hI : Inv E g w s) {y : AV} {yv : Value} {k : Nat} {cs : List AV} (hy : V g w y yv) (hk : k ≠ 0) (h : srcCells s k y = some cs) :
    ∃ n us, (Builtin.lenOf yv).run E.P w = .ok n w ∧ cs.length = n * k ∧ (∀ w', w'.heap = w.heap → (Builtin.firstCells k n yv).run E.P w' = .ok (List.toArray us) w') ∧ VL g w cs us := by
  unfold srcCells at h
  split at h
  · rename_i b
    split at h
    · rename_i hk1
      subst hk1
      simp at h; subst h
      have := hy.scv_inv; subst this
      refine ⟨b.size, b.data.toList.map fun b => .int .u8 b.toNat, by simp [Builtin.lenOf], by rw [List.length_map, Array.length_toList, Nat.mul_one]; rfl, fun w' _ => ?_, ?_⟩
      · simp only [Builtin.firstCells]
        have : b.extract 0 b.size = b := by simp
        rw [this, Sem.run_pure]
        congr 1
        apply Array.ext'
        simp
      · refine ⟨by simp, fun i c v h1 h2 => ?_⟩
        rw [List.getElem?_map] at h1 h2
        cases hb : b.data.toList[i]? with
        | none => simp [hb] at h1
        | some x => simp only [hb, Option.map_some, Option.some.injEq] at h1 h2; subst h1; subst h2; exact V.scv _
    · simp at h
  · rename_i id off len sz
    split at h
    · rename_i bcs hb
      split at h
      · rename_i hc
        obtain ⟨hc1, hc2, hal⟩ := hc
        subst hc2
        simp at h; subst h
        cases hy with
        | refD hd => exact absurd hd (hI.alive hal)
        | @ref _ _ _ _ b cap n e hblk hcap hs hn =>
          obtain ⟨cs', vs, e', k1, k2, kle, k3⟩ := hI.blk id b hblk
          rw [hb] at k1; simp at k1; subst k1
          have hvl := (k3.drop off).take (len * sz)
          refine ⟨len, _, by simp [Builtin.lenOf], by simp; omega, fun w' hw' => ?_, hvl⟩
          simp only [Builtin.firstCells]
          have hlen : (((vs.take bcs.length).drop off).take (len * sz)).length = len * sz := by simp; omega
          have := loadCells_run (P := E.P) (w := w') (b := b) (o := off) (((vs.take bcs.length).drop off).take (len * sz)) (fun j u hj => by
            rw [cell_of_heap (by rw [hw']; exact k2)]
            rw [List.getElem?_take] at hj
            split at hj
            · rw [List.getElem?_drop, List.getElem?_take] at hj
              split at hj
              · exact hj
              · simp at hj
            · simp at hj)
          rw [hlen] at this
          exact this
      · simp at h
    · simp at h
  · split at h
    · rename_i rows hrows
      split at h
      · rename_i hall
        simp only [Option.some.injEq] at h; subst h
        have hl := all_len hall
        obtain ⟨base, cap, b, o, sz, f, rfl, hcap, hr⟩ := rowsOf_sound hy hrows
        obtain ⟨us, hf, _, hrun⟩ := hr.flat' hk hl cap
        exact ⟨rows.length, us, by simp [Builtin.lenOf], by rw [List.length_map, flatten_length rows hl], fun w' hw' => hrun E.P w' hw', hf.vl hk⟩
      · simp at h
    · simp at h

/-- How append runs where there is room. -/
theorem run_append_room {P : Program} {w : World} {t u elem : TypeId} {d : TypeDesc} {i : TypeInfo} {base : Option Addr} {sLen sCap n : Nat} {x : Value} {us : List Value} (T : TypeId) (ts : List TypeId)
    (ht : P.underlying t = some (.slice elem)) (hi : P.info? elem = some i) (hu : P.underlying u = some d) (hd : ∀ k, d ≠ .int k)
    (hn : (Builtin.lenOf x).run P w = .ok n w) (hf : (Builtin.firstCells i.size n x).run P w = .ok (List.toArray us) w) (hroom : sLen + n ≤ sCap) :
    (Builtin.append_ (List.toArray (t :: u :: ts)) T #[.slice base sLen sCap, x]).run P w =
      match base with
      | none => .ok (.slice base (sLen + n) sCap) w
      | some a => ((storeCells (a.add (sLen * i.size)) us).run P w).andThen fun _ w' => .ok (.slice base (sLen + n) sCap) w' := by
  simp only [Builtin.append_]
  simp [run_underlying ht, run_sizeOf hi, run_underlying hu, hn, hroom, hf]
  cases base <;> simp

theorem growBy_le (newLen : Nat) : ∀ (r c : Nat), Builtin.growBy newLen r c ≤ max c (newLen + (newLen + 768) / 4) := by
  intro r
  induction r with
  | zero => intro c; simp [Builtin.growBy]; omega
  | succ r ih =>
    intro c
    simp only [Builtin.growBy]
    split
    · omega
    · have := ih (c + (c + 768) / 4)
      omega

theorem nextslicecap_le (need cap : Nat) (h : cap < need) : Builtin.nextslicecap need cap ≤ 3 * need := by
  unfold Builtin.nextslicecap
  split
  · omega
  · split
    · omega
    · have := growBy_le need 4 cap
      omega

/-- The world after a draw. -/
def drewW (w : World) : World := { w with drawn := w.drawn + 1 }

/-- How append runs where there is no room. -/
theorem run_append_grow {P : Program} {w : World} {t u elem : TypeId} {d : TypeDesc} {i : TypeInfo} {base : Option Addr} {sLen sCap n : Nat} {x zv : Value} {us os : List Value} (T : TypeId) (ts : List TypeId)
    (ht : P.underlying t = some (.slice elem)) (hi : P.info? elem = some i) (hu : P.underlying u = some d) (hd : ∀ k, d ≠ .int k)
    (hn : (Builtin.lenOf x).run P w = .ok n w) (hf : (Builtin.firstCells i.size n x).run P (drewW w) = .ok (List.toArray us) (drewW w))
    (ho : (Builtin.firstCells i.size sLen (.slice base sLen sCap)).run P (drewW w) = .ok (List.toArray os) (drewW w)) (hz : i.zero = some zv)
    (hroom : sCap < sLen + n) (hb1 : (sLen + n) * i.bytes ≤ 2 ^ 45) (hb2 : sLen + n ≤ 2 ^ 45) :
    ∃ cap rest, sLen + n ≤ cap ∧ rest.length = (cap - (sLen + n)) * zv.cells.size ∧
      (Builtin.append_ (List.toArray (t :: u :: ts)) T #[.slice base sLen sCap, x]).run P w = .ok (.slice (some ⟨w.heap.size, 0, none⟩) (sLen + n) cap) (pushW (drewW w) (os ++ us ++ rest) elem) := by
  have hcap : ¬ (2 ^ 48 < Builtin.nextslicecap (sLen + n) sCap * i.bytes) := by
    have := nextslicecap_le (sLen + n) sCap hroom
    have := Nat.mul_le_mul_right i.bytes this
    rw [Nat.mul_assoc] at this
    omega
  have hi64 : ¬ (IntKind.i64.max < ((sLen : Int) + (n : Int))) := by
    have : IntKind.i64.max = 9223372036854775807 := rfl
    rw [this]
    omega
  have hzero : (zeroValue elem).run P (drewW w) = .ok zv (drewW w) := by simp [zeroValue, run_typeInfo hi, hz]
  refine ⟨(sLen + n) + w.tape w.drawn (.appendCap (sLen + n) sCap elem) % (2 ^ 63 - (sLen + n)), (Builtin.zeroCells zv.cells ((sLen + n) + w.tape w.drawn (.appendCap (sLen + n) sCap elem) % (2 ^ 63 - (sLen + n)) - (sLen + n))).toList, Nat.le_add_right _ _, ?_, ?_⟩
  · simp [Builtin.zeroCells]
  · simp only [Builtin.append_]
    simp [run_underlying ht, run_sizeOf hi, run_underlying hu, hn, run_typeInfo hi, Question.forced, Question.cut]
    rw [if_neg (by omega), if_neg (by intro h; exact hi64 h.1), if_neg hcap]
    have hf' := hf
    have ho' := ho
    have hzero' := hzero
    unfold drewW at hf' ho' hzero'
    simp [ho', hf', hzero', newRow, pushW, drewW]
    congr 2
    apply Array.ext'
    simp

end Go.Tel
