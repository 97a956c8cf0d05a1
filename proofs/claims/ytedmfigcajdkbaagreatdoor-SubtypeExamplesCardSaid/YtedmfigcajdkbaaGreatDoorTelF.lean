/-
  Single operations, part 4: rows laid flat; slices of rows; append.
-/
import Derived.Test.YtedmfigcajdkbaaGreatDoorTelE
namespace Go.Tel

/-- The rows as one flat list of cells. -/
structure Flat (I : Nat → Nat → Prop) (w : World) (rows : List (List PV)) (sz : Nat) (us : List Value) : Prop where
  len : us.length = rows.length * sz
  hsz : ∀ row ∈ rows, row.length = sz
  at_ : ∀ i row j c, rows[i]? = some row → row[j]? = some c → ∃ u, us[i * sz + j]? = some u ∧ VP I w c u

theorem Flat.mono {I I' : Nat → Nat → Prop} {w w' : World} (hI : ∀ b o, I b o → I' b o) (hw : ∀ b o, I b o → w'.cell? ⟨b, o, none⟩ = w.cell? ⟨b, o, none⟩)
    {rows : List (List PV)} {sz : Nat} {us : List Value} (h : Flat I w rows sz us) : Flat I' w' rows sz us :=
  ⟨h.len, h.hsz, fun i row j c hr hc => by obtain ⟨u, h1, h2⟩ := h.at_ i row j c hr hc; exact ⟨u, h1, h2.mono hI hw⟩⟩

theorem Flat.append {I : Nat → Nat → Prop} {w : World} {rows rows' : List (List PV)} {sz : Nat} {us us' : List Value} (h : Flat I w rows sz us) (k : Flat I w rows' sz us') :
    Flat I w (rows ++ rows') sz (us ++ us') := by
  refine ⟨by simp [h.len, k.len, Nat.add_mul], fun row hr => ?_, fun i row j c hr hc => ?_⟩
  · rcases List.mem_append.1 hr with hr | hr
    · exact h.hsz row hr
    · exact k.hsz row hr
  · rcases Nat.lt_or_ge i rows.length with hi | hi
    · rw [List.getElem?_append_left hi] at hr
      obtain ⟨u, h1, h2⟩ := h.at_ i row j c hr hc
      exact ⟨u, by rw [List.getElem?_append_left (lt_of_getElem?L h1)]; exact h1, h2⟩
    · rw [List.getElem?_append_right hi] at hr
      obtain ⟨u, h1, h2⟩ := k.at_ _ row j c hr hc
      refine ⟨u, ?_, h2⟩
      have e : i * sz = us.length + (i - rows.length) * sz := by
        rw [h.len, ← Nat.add_mul]; congr 1; omega
      rw [List.getElem?_append_right (by omega), show i * sz + j - us.length = (i - rows.length) * sz + j by omega]
      exact h1

theorem Flat.rowsAt {I : Nat → Nat → Prop} {w : World} {rows : List (List PV)} {sz : Nat} {us : List Value} (h : Flat I w rows sz us) {b o : Nat}
    (hi : ∀ q, q < us.length → I b (o + q)) (hc : ∀ q u, us[q]? = some u → w.cell? ⟨b, o + q, none⟩ = some u) :
    RowsAt I w rows (some ⟨b, o, none⟩) b o sz (fun i j => (us[i * sz + j]?).getD undef) := by
  refine ⟨h.hsz, fun _ _ => rfl, fun i row j c hr hj => ?_, fun i row j c hr hj => ?_⟩
  · obtain ⟨u, h1, _⟩ := h.at_ i row j c hr hj
    rw [Nat.add_assoc]
    exact ⟨hi _ (lt_of_getElem?L h1), by rw [hc _ u h1, h1]; rfl⟩
  · obtain ⟨u, h1, h2⟩ := h.at_ i row j c hr hj
    simp only [h1]; exact h2

theorem div_mod_of {i sz j : Nat} (h : j < sz) : (i * sz + j) / sz = i ∧ (i * sz + j) % sz = j := by
  have hs : 0 < sz := by omega
  constructor
  · rw [Nat.mul_comm, Nat.mul_add_div hs, Nat.div_eq_of_lt h]; omega
  · rw [Nat.mul_comm, Nat.mul_add_mod, Nat.mod_eq_of_lt h]

/-- Rows in memory, read flat. -/
theorem RowsAt.flat {I : Nat → Nat → Prop} {w : World} {rows : List (List PV)} {base : Option Addr} {b o sz : Nat} {f : Nat → Nat → Value} (h : RowsAt I w rows base b o sz f) (hs : sz ≠ 0) :
    ∃ us, Flat I w rows sz us ∧ ∀ q u, us[q]? = some u → I b (o + q) ∧ w.cell? ⟨b, o + q, none⟩ = some u := by
  refine ⟨(List.range (rows.length * sz)).map (fun q => f (q / sz) (q % sz)), ⟨by simp, h.hsz, fun i row j c hr hj => ?_⟩, fun q u hq => ?_⟩
  · have hi := lt_of_getElem?L hr
    have hj' : j < sz := by rw [← h.hsz row (List.mem_of_getElem? hr)]; exact lt_of_getElem?L hj
    have hlt : i * sz + j < rows.length * sz := by
      have : (i + 1) * sz ≤ rows.length * sz := Nat.mul_le_mul_right _ hi
      rw [Nat.add_mul] at this; omega
    refine ⟨f i j, ?_, h.hv i row j c hr hj⟩
    obtain ⟨d1, d2⟩ := div_mod_of (i := i) hj'
    simp [List.getElem?_map, List.getElem?_range hlt, d1, d2]
  · have hlt : q < rows.length * sz := by have := lt_of_getElem?L hq; simpa using this
    simp [List.getElem?_map, List.getElem?_range hlt] at hq
    subst hq
    have hi : q / sz < rows.length := Nat.div_lt_of_lt_mul (by rw [Nat.mul_comm]; exact hlt)
    have hm : q % sz < sz := Nat.mod_lt _ (by omega)
    have hr : rows[q / sz]? = some rows[q / sz] := by simp [hi]
    have hl : rows[q / sz].length = sz := h.hsz _ (by simp)
    have hc := h.hc (q / sz) rows[q / sz] (q % sz) (rows[q / sz][q % sz]'(by omega)) hr (by simp [hl, hm])
    have e : o + q / sz * sz + q % sz = o + q := by have := Nat.div_add_mod q sz; rw [Nat.mul_comm] at this; omega
    rw [e] at hc
    exact hc

theorem rowsOf_sound {g : Ghost} {w : World} {x : AV} {rows : List (List PV)} {v : Value} (h : V g w x v) (hr : rowsOf x = some rows) :
    ∃ base cap b o sz f, v = .slice base rows.length cap ∧ rows.length ≤ cap ∧ RowsAt g.I w rows base b o sz f := by
  unfold rowsOf at hr
  split at hr
  · simp at hr; subst hr
    cases h with | pv h => exact h.rows
  · simp at hr; subst hr
    cases h with | capped h => exact ⟨_, _, _, _, _, _, rfl, Nat.le_refl _, h⟩
  · simp at hr; subst hr
    cases h with | own h hcap => exact ⟨_, _, _, _, _, _, rfl, hcap, h⟩
  · simp at hr

theorem toPV_sound {g : Ghost} {w : World} {x : AV} {p : PV} {v : Value} (h : V g w x v) (hp : toPV x = some p) : VP g.I w p v := by
  unfold toPV at hp
  split at hp
  · simp at hp; subst hp; cases h with | pv h => exact h
  · simp at hp; subst hp; cases h with | capped h => exact VP.of_rows h (Nat.le_refl _)
  · simp at hp; subst hp; cases h with | own h hcap => exact VP.of_rows h hcap
  · simp at hp

theorem toPVs_sound {g : Ghost} {w : World} {cs : List AV} : ∀ {ps : List PV} {vs : List Value}, VL g w cs vs → toPVs cs = some ps →
    ps.length = vs.length ∧ ∀ (j : Nat) p, ps[j]? = some p → ∃ u, vs[j]? = some u ∧ VP g.I w p u := by
  induction cs with
  | nil => intro ps vs h hp; simp [toPVs] at hp; subst hp; rw [h.nil_inv]; simp
  | cons c cs ih =>
    intro ps vs h hp
    obtain ⟨u, us, rfl, h1, h2⟩ := h.cases
    simp only [toPVs] at hp
    split at hp
    · rename_i p qs hc hcs
      simp at hp; subst hp
      obtain ⟨k1, k2⟩ := ih h2 hcs
      refine ⟨by simp [k1], fun j p' hj => ?_⟩
      cases j with
      | zero => simp at hj; subst hj; exact ⟨u, rfl, toPV_sound h1 hc⟩
      | succ j => simp at hj ⊢; exact k2 j p' hj
    · simp at hp

theorem rowsBy_length (k : Nat) : ∀ (n : Nat) (ps : List PV), (rowsBy k n ps).length = n := by
  intro n
  induction n with
  | zero => intro ps; rfl
  | succ n ih => intro ps; simp [rowsBy, ih]

theorem rowsBy_get (k : Nat) : ∀ (n : Nat) (ps : List PV) (i : Nat) (row : List PV), (rowsBy k n ps)[i]? = some row → row = (ps.drop (i * k)).take k := by
  intro n
  induction n with
  | zero => intro ps i row h; simp [rowsBy] at h
  | succ n ih =>
    intro ps i row h
    cases i with
    | zero => simp [rowsBy] at h; simp [h]
    | succ i =>
      simp [rowsBy] at h
      rw [ih _ i row h, List.drop_drop]
      congr 2
      rw [Nat.add_mul]; omega

theorem flat_of_pvs {I : Nat → Nat → Prop} {w : World} {k n : Nat} {ps : List PV} {us : List Value} (hn : us.length = n * k) (hl : ps.length = us.length)
    (h : ∀ (j : Nat) p, ps[j]? = some p → ∃ u, us[j]? = some u ∧ VP I w p u) : Flat I w (rowsBy k n ps) k us := by
  refine ⟨by rw [rowsBy_length, hn], fun row hr => ?_, fun i row j c hr hj => ?_⟩
  · obtain ⟨i, hi, rfl⟩ := List.mem_iff_getElem.1 hr
    rw [rowsBy_length] at hi
    have := rowsBy_get k n ps i _ (List.getElem?_eq_getElem (by rw [rowsBy_length]; exact hi))
    rw [this]
    have : (i + 1) * k ≤ n * k := Nat.mul_le_mul_right _ hi
    rw [Nat.add_mul] at this
    simp; omega
  · have := rowsBy_get k n ps i row hr
    subst this
    rw [List.getElem?_take] at hj
    split at hj
    · rw [List.getElem?_drop] at hj
      exact h _ c hj
    · simp at hj

theorem repl_length {α : Type} (l : List α) : ∀ n, (repl n l).length = n * l.length := by
  intro n
  induction n with
  | zero => simp [repl]
  | succ n ih => simp [repl, ih, Nat.add_mul]; omega

theorem VL.repl {g : Ghost} {w : World} {cs : List AV} {vs : List Value} (h : VL g w cs vs) : ∀ n, VL g w (Tel.repl n cs) (Tel.repl n vs) := by
  intro n
  induction n with
  | zero => exact .nil
  | succ n ih => exact h.append ih

theorem range_repl (z : List Value) (hz : z ≠ []) (d : Value) : ∀ n, (List.range (n * z.length)).map (fun i => (z[i % z.length]?).getD d) = repl n z := by
  have hp : 0 < z.length := List.length_pos_iff.2 hz
  intro n
  induction n with
  | zero => simp [repl]
  | succ n ih =>
    have e : (n + 1) * z.length = z.length + n * z.length := by rw [Nat.add_mul]; omega
    rw [e, List.range_add, List.map_append]
    simp only [List.map_map, repl]
    congr 1
    · apply List.ext_getElem?
      intro i
      rw [List.getElem?_map]
      rcases Nat.lt_or_ge i z.length with h | h
      · simp [Nat.mod_eq_of_lt h, h]
      · rw [List.getElem?_eq_none (by simpa using h), List.getElem?_eq_none h]; rfl
    · rw [← ih]
      apply List.map_congr_left
      intro i _
      simp

theorem zero_cells (z : Array Value) (n : Nat) (hz : z.size ≠ 0) : (Array.range (n * z.size)).map (z[· % z.size]!) = ⟨repl n z.toList⟩ := by
  apply Array.ext'
  have hne : z.toList ≠ [] := by intro h; apply hz; rw [← Array.length_toList, h]; rfl
  have := range_repl z.toList hne default n
  simp only [Array.toList_map, Array.toList_range]
  rw [← this]
  simp only [Array.length_toList]
  apply List.map_congr_left
  intro i _
  rw [getElem!_def]
  simp only [← Array.getElem?_toList]
  cases z.toList[i % z.size]? <;> rfl

end Go.Tel
