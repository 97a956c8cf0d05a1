/-
  Single operations: what the evaluator answers is what the model does. Part 1: values, loads, stores, new blocks.
-/
import Derived.Test.YtedmfigcajdkbaaGreatDoorTelB
namespace Go.Tel

theorem quick_run (P : Program) {α : Type} (s : Sem α) (a : α) (h : quick P s = some a) (w : World) : s.run P w = .ok a w := by
  induction s with
  | pure x => simp [quick] at h; subst h; rfl
  | program k ih => simp only [quick] at h; simp only [Sem.run]; exact ih P h
  | mark m k ih => simp only [quick] at h; simp only [Sem.run]; exact ih h
  | load => simp [quick] at h
  | store => simp [quick] at h
  | new => simp [quick] at h
  | shape => simp [quick] at h
  | freeze => simp [quick] at h
  | frozen => simp [quick] at h
  | getObj => simp [quick] at h
  | setObj => simp [quick] at h
  | choose => simp [quick] at h
  | sys => simp [quick] at h
  | halt => simp [quick] at h

theorem V.scv {g : Ghost} {w : World} (v : Value) : V g w (scv v) v := .pv (.sc v)
theorem V.scv_inv {g : Ghost} {w : World} {u v : Value} (h : V g w (.pv (.sc u)) v) : v = u := by cases h with | pv h => exact h.scv

theorem VL.scvs {g : Ghost} {w : World} (vs : List Value) : VL g w (vs.map Tel.scv) vs := by
  induction vs with
  | nil => exact .nil
  | cons v vs ih => exact .cons (.scv v) ih

theorem VL.map {g : Ghost} {w : World} {f : Value → AV} (hf : ∀ v, V g w (f v) v) (vs : List Value) : VL g w (vs.map f) vs := by
  induction vs with
  | nil => exact .nil
  | cons v vs ih => exact .cons (hf v) ih

theorem V.ofVal {g : Ghost} {w : World} (v : Value) : V g w (ofVal v) v := by
  unfold Tel.ofVal
  split
  · rename_i cs; have h := VL.scvs (g := g) (w := w) cs.toList; exact .agg h.len h.at_
  · rename_i vs; have h := VL.scvs (g := g) (w := w) vs.toList; exact .tuple h.len h.at_
  · exact .scv _

theorem V.ofCell {g : Ghost} {w : World} (v : Value) : V g w (ofCell v) v := by
  unfold Tel.ofCell
  split
  · exact .capped (b := 0) (o := 0) (sz := 0) (f := fun _ _ => undef) .nil
  · exact .scv _

theorem V.ofConst {g : Ghost} {w : World} (v : Value) : V g w (ofConst v) v := by
  unfold Tel.ofConst
  split
  · rename_i cs; have h := VL.map (g := g) (w := w) (V.ofCell) cs.toList; exact .agg h.len h.at_
  · rename_i vs; have h := VL.scvs (g := g) (w := w) vs.toList; exact .tuple h.len h.at_
  · exact V.ofCell _

theorem evalO_sound {g : Ghost} {w : World} {ρ : Nat → AV} {a : Act} (hρ : ∀ t, V g w (ρ t) (a.tmps.getD t undef)) (x : Operand) : V g w (evalO ρ x) (a.eval x) := by
  cases x with
  | tmp t => exact hρ t
  | const v => exact V.ofConst v
  | global gl => exact .gptr gl 0
  | func f => exact .func (vs := []) (us := []) rfl rfl (by simp) (by simp)

theorem V.agg' {g : Ghost} {w : World} {cs : List AV} {vs : List Value} (h : VL g w cs vs) : V g w (.agg cs) (.agg ⟨vs⟩) := .agg h.len h.at_
theorem V.tuple' {g : Ghost} {w : World} {cs : List AV} {vs : List Value} (h : VL g w cs vs) : V g w (.tuple cs) (.tuple ⟨vs⟩) := .tuple h.len h.at_
theorem V.agg_inv {g : Ghost} {w : World} {cs : List AV} {v : Value} (h : V g w (.agg cs) v) : ∃ vs, v = .agg ⟨vs⟩ ∧ VL g w cs vs := by
  cases h with | agg hl h => exact ⟨_, rfl, hl, h⟩
theorem V.tuple_inv {g : Ghost} {w : World} {cs : List AV} {v : Value} (h : V g w (.tuple cs) v) : ∃ vs, v = .tuple ⟨vs⟩ ∧ VL g w cs vs := by
  cases h with | tuple hl h => exact ⟨_, rfl, hl, h⟩
theorem V.undef {g : Ghost} {w : World} : V g w (.tuple []) undef := V.tuple' .nil

/-- A value that may lie in a cell is the value of one cell. -/
theorem okCell_one {g : Ghost} {w : World} {c : AV} {v : Value} (h : V g w c v) (hc : okCell c = true) : v.oneCell' = true := by
  cases h with
  | pv h =>
    cases h with
    | sc v => cases v <;> simp_all [okCell, Value.oneCell']
    | list => rfl
  | agg => simp [okCell] at hc
  | tuple => simp [okCell] at hc
  | ptr | ptrD | gptr | eptr | capped | own | ref | refD | junk | mref | func | iface => rfl

theorem cells_one {v : Value} (h : v.oneCell' = true) : v.cells = #[v] := by cases v <;> simp_all [Value.cells, Value.oneCell']

/-- The cells of related values are related, where each abstract cell may lie in a cell. -/
theorem cellsOf_sound {g : Ghost} {w : World} {x : AV} {v : Value} (h : V g w x v) (hc : (cellsOf x).all okCell = true) : VL g w (cellsOf x) v.cells.toList := by
  cases x with
  | agg cs =>
    obtain ⟨vs, rfl, hl⟩ := h.agg_inv
    exact hl
  | tuple vs => simp [cellsOf, okCell] at hc
  | _ =>
    have h1 := okCell_one h (by simpa [cellsOf] using hc)
    rw [cells_one h1]
    exact .cons h .nil

theorem addr_add (b o n : Nat) : Addr.add ⟨b, o, none⟩ n = ⟨b, o + n, none⟩ := by
  unfold Addr.add
  split
  · rename_i h; subst h; rfl
  · rfl

theorem loadCellsFrom_run {P : Program} {w : World} {b o : Nat} (us : List Value) : ∀ (i : Nat) (acc : Array Value),
    (∀ (j : Nat) u, us[j]? = some u → w.cell? ⟨b, o + (i + j), none⟩ = some u) →
    (loadCellsFrom ⟨b, o, none⟩ i us.length acc).run P w = .ok (acc ++ us.toArray) w := by
  induction us with
  | nil => intro i acc _; simp [loadCellsFrom]
  | cons u us ih =>
    intro i acc h
    have h0 := h 0 u rfl
    simp only [Nat.add_zero] at h0
    simp only [List.length_cons, loadCellsFrom, Sem.run_bind, run_load, addr_add, h0, Result.andThen_ok]
    rw [ih (i + 1) (acc.push u) (fun j u' hj => by have := h (j + 1) u' (by simpa using hj); rw [show i + 1 + j = i + (j + 1) by omega]; exact this)]
    simp

theorem loadCells_run {P : Program} {w : World} {b o : Nat} (us : List Value) (h : ∀ (j : Nat) u, us[j]? = some u → w.cell? ⟨b, o + j, none⟩ = some u) :
    (loadCells ⟨b, o, none⟩ us.length).run P w = .ok us.toArray w := by
  have := loadCellsFrom_run (P := P) (w := w) (b := b) (o := o) us 0 #[] (fun j u hj => by simpa using h j u hj)
  simpa [loadCells] using this

theorem run_underlying {P : Program} {w : World} {t : TypeId} {d : TypeDesc} (h : P.underlying t = some d) : (underlying t).run P w = .ok d w := by
  simp [underlying, h]
theorem run_typeInfo {P : Program} {w : World} {t : TypeId} {i : TypeInfo} (h : P.info? t = some i) : (typeInfo t).run P w = .ok i w := by
  simp [typeInfo, h]
theorem run_sizeOf {P : Program} {w : World} {t : TypeId} {i : TypeInfo} (h : P.info? t = some i) : (sizeOf t).run P w = .ok i.size w := by
  simp [sizeOf, run_typeInfo h]
theorem sizeA_info {P : Program} {t : TypeId} {k : Nat} (h : sizeA P t = some k) : ∃ i, P.info? t = some i ∧ i.size = k := by
  unfold sizeA at h
  split at h
  · rename_i i hi; simp at h; exact ⟨i, hi, h⟩
  · simp at h

/-- A part of a row of cells in memory. -/
theorem load_at {P : Program} {g : Ghost} {w : World} {cs : List AV} {us : List Value} {b o off : Nat} {t : TypeId} {v : AV}
    (hl : VL g w cs us) (hcell : ∀ (j : Nat) u, us[j]? = some u → w.cell? ⟨b, o + j, none⟩ = some u) (hp : partOf P t cs off = some v) :
    ∃ v', (Instr.loadAt t (.pointer (some ⟨b, o + off, none⟩))).run P w = .ok v' w ∧ V g w v v' := by
  unfold partOf at hp
  split at hp
  · rename_i d i hd hi
    have one : cs[off]? = some v → ∃ u, w.cell? ⟨b, o + off, none⟩ = some u ∧ V g w v u := by
      intro hv
      obtain ⟨u, h1, h2⟩ := hl.get hv
      exact ⟨u, hcell off u h1, h2⟩
    have many : (if off + i.size ≤ cs.length ∧ i.size ≠ 0 then some (AV.agg ((cs.drop off).take i.size)) else none) = some v →
        ∃ us', (loadCells ⟨b, o + off, none⟩ i.size).run P w = .ok (List.toArray us') w ∧ V g w v (.agg ⟨us'⟩) := by
      intro hv
      split at hv
      · rename_i hle
        have hle := hle.1
        simp at hv; subst hv
        have hk := (hl.drop off).take i.size
        refine ⟨_, ?_, V.agg' hk⟩
        have hlen : ((us.drop off).take i.size).length = i.size := by
          have := hl.len
          simp; omega
        have := loadCells_run (P := P) (w := w) (b := b) (o := o + off) ((us.drop off).take i.size) (fun j u hj => by
          rw [List.getElem?_take] at hj
          split at hj
          · rw [List.getElem?_drop] at hj
            rw [Nat.add_assoc]
            exact hcell _ u hj
          · simp at hj)
        rw [hlen] at this
        exact this
      · simp at hv
    cases d with
    | struct fs =>
      obtain ⟨us', h1, h2⟩ := many hp
      exact ⟨_, by simp [Instr.loadAt, Instr.sureAddr, loadVar, isAgg, run_underlying hd, run_sizeOf hi, h1], h2⟩
    | array n e =>
      obtain ⟨us', h1, h2⟩ := many hp
      exact ⟨_, by simp [Instr.loadAt, Instr.sureAddr, loadVar, isAgg, run_underlying hd, run_sizeOf hi, h1], h2⟩
    | _ =>
      obtain ⟨u, h1, h2⟩ := one hp
      exact ⟨u, by simp [Instr.loadAt, Instr.sureAddr, loadVar, isAgg, run_underlying hd, h1], h2⟩
  · simp at hp

theorem cell_of_heap {w : World} {b o : Nat} {vs : List Value} {e : TypeId} {fz : Nat × Nat} (h : w.heap[b]? = some (.cells ⟨vs⟩ e fz)) : w.cell? ⟨b, o, none⟩ = vs[o]? := by
  simp [World.cell?, h]

theorem VPs_row {g : Ghost} {w : World} {row : List PV} {f : Nat → Value} (h : ∀ (j : Nat) c, row[j]? = some c → VP g.I w c (f j)) :
    VL g w (row.map .pv) ((List.range row.length).map f) := by
  refine ⟨by simp, fun i c v h1 h2 => ?_⟩
  rw [List.getElem?_map] at h1
  cases hr : row[i]? with
  | none => simp [hr] at h1
  | some p =>
    simp [hr] at h1; subst h1
    have hi : i < row.length := by
      rcases Nat.lt_or_ge i row.length with k | k
      · exact k
      · rw [List.getElem?_eq_none k] at hr; simp at hr
    simp [List.getElem?_map, List.getElem?_range hi] at h2
    subst h2
    exact .pv (h i p hr)

theorem partOf_nil {P : Program} {t : TypeId} {off : Nat} (v : AV) : partOf P t [] off ≠ some v := by
  unfold partOf
  split
  · rename_i d i _ _
    have many : (if off + i.size ≤ ([] : List AV).length ∧ i.size ≠ 0 then some (AV.agg ((([] : List AV).drop off).take i.size)) else none) ≠ some v := by
      rw [if_neg (by simp)]; exact fun h => by cases h
    cases d <;> first | exact many | simp
  · simp

theorem loadA_sound {E : Env} {g : Ghost} {w : World} {s : Sto} (hI : Inv E g w s) {t : TypeId} {x v : AV} {xv : Value} (hx : V g w x xv) (h : loadA E s t x = some v) :
    ∃ v', (Instr.loadAt t xv).run E.P w = .ok v' w ∧ V g w v v' := by
  unfold loadA at h
  split at h
  · rename_i id off
    split at h
    · rename_i cs hcs
      cases hx with
      | @ptr _ _ b hb =>
        obtain ⟨cs', vs, e, h1, h2, hle, h3⟩ := hI.blk id b hb
        simp only [lookB] at hcs
        rw [hcs] at h1; simp at h1; subst h1
        have := load_at (P := E.P) (b := b) (o := 0) h3 (fun j u hj => by
          rw [cell_of_heap h2]
          rw [List.getElem?_take] at hj
          split at hj
          · simpa using hj
          · simp at hj) h
        simpa using this
      | ptrD hd =>
        have := hI.deadE id hd
        simp only [lookB] at hcs
        rw [hcs] at this; simp at this; subst this
        exact absurd h (partOf_nil _)
    · simp at h
  · rename_i gl off
    split at h
    · rename_i row hrow
      cases hx with
      | gptr =>
        have hg := hI.glob gl row hrow
        have hex : ∀ j, ∃ v, ∀ c, row[j]? = some c → g.I gl j ∧ w.cell? ⟨gl, j, none⟩ = some v ∧ VP g.I w c v := by
          intro j
          cases hj : row[j]? with
          | none => exact ⟨undef, by simp⟩
          | some c =>
            obtain ⟨v, hv⟩ := hg j c hj
            exact ⟨v, fun c' hc' => by simp at hc'; subst hc'; exact hv⟩
        have hf := fun j => Classical.choose_spec (hex j)
        have hl := VPs_row (g := g) (w := w) (row := row) (f := fun j => Classical.choose (hex j)) (fun j c hc => (hf j c hc).2.2)
        have := load_at (P := E.P) (b := gl) (o := 0) hl (fun j u hj => by
          have hi : j < row.length := by
            rcases Nat.lt_or_ge j row.length with k | k
            · exact k
            · rw [List.getElem?_eq_none (by simp; exact k)] at hj; simp at hj
          simp [List.getElem?_map, List.getElem?_range hi] at hj
          subst hj
          have := (hf j row[j] (by simp [hi])).2.1
          simpa using this) h
        simpa using this
    · simp at h
  · rename_i row off
    cases hx with
    | @eptr _ b o _ f hr =>
      have hl := VPs_row (g := g) (w := w) (row := row) (f := f) (fun j c hc => (hr j c hc).2.2)
      exact load_at (P := E.P) (b := b) (o := o) hl (fun j u hj => by
        have hi : j < row.length := by
          rcases Nat.lt_or_ge j row.length with k | k
          · exact k
          · rw [List.getElem?_eq_none (by simp; exact k)] at hj; simp at hj
        simp [List.getElem?_map, List.getElem?_range hi] at hj
        subst hj
        exact (hr j row[j] (by simp [hi])).2.1) h
  · simp at h

theorem partOf_sound {P : Program} {g : Ghost} {w : World} {cs : List AV} {us : List Value} {off : Nat} {t : TypeId} {v : AV}
    (hl : VL g w cs us) (hp : partOf P t cs off = some v) : ∃ v', (part t ⟨us⟩ off).run P w = .ok v' w ∧ V g w v v' := by
  unfold partOf at hp
  split at hp
  · rename_i d i hd hi
    have one : cs[off]? = some v → ∃ u, us[off]? = some u ∧ V g w v u := fun hv => hl.get hv
    have many : (if off + i.size ≤ cs.length ∧ i.size ≠ 0 then some (AV.agg ((cs.drop off).take i.size)) else none) = some v → V g w v (.agg ((⟨us⟩ : Array Value).extract off (off + i.size))) := by
      intro hv
      split at hv
      · simp at hv; subst hv
        have hk := (hl.drop off).take i.size
        have e : (⟨us⟩ : Array Value).extract off (off + i.size) = ⟨(us.drop off).take i.size⟩ := by
          apply Array.ext'
          simp
        rw [e]
        exact V.agg' hk
      · simp at hv
    cases d with
    | struct fs => exact ⟨_, by simp only [part, isAgg, Sem.run_bind, run_underlying hd, Result.andThen_ok, Sem.run_pure, if_true, run_sizeOf hi], many hp⟩
    | array n e => exact ⟨_, by simp only [part, isAgg, Sem.run_bind, run_underlying hd, Result.andThen_ok, Sem.run_pure, if_true, run_sizeOf hi], many hp⟩
    | _ =>
      obtain ⟨u, h1, h2⟩ := one hp
      exact ⟨u, by simp [part, isAgg, run_underlying hd, h1], h2⟩
  · simp at hp

end Go.Tel
