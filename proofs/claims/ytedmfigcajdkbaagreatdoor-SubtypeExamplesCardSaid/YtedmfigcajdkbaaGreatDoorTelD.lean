/-
  Single operations, part 2: stores and new blocks.
-/
import Derived.Test.YtedmfigcajdkbaaGreatDoorTelC
namespace Go.Tel

def setV (vs : List Value) (k : Nat) : List Value → List Value
  | [] => vs
  | u :: us => setV (vs.set k u) (k + 1) us

theorem setV_length (us : List Value) : ∀ (vs : List Value) (k : Nat), (setV vs k us).length = vs.length := by
  induction us with
  | nil => intro vs k; rfl
  | cons u us ih => intro vs k; simp [setV, ih]

theorem setCells_length (us : List AV) : ∀ (vs : List AV) (k : Nat), (setCells vs k us).length = vs.length := by
  induction us with
  | nil => intro vs k; rfl
  | cons u us ih => intro vs k; simp [setCells, ih]

theorem VL.setCells {g : Ghost} {w : World} {us : List AV} : ∀ {cs : List AV} {vs ws : List Value} (k : Nat), VL g w cs vs → VL g w us ws → VL g w (setCells cs k us) (setV vs k ws) := by
  induction us with
  | nil => intro cs vs ws k h1 h2; rw [h2.nil_inv]; exact h1
  | cons u us ih =>
    intro cs vs ws k h1 h2
    obtain ⟨x, xs, rfl, h3, h4⟩ := h2.cases
    exact ih (k + 1) (h1.set k h3) h4

/-- The world with the row of block b replaced. -/
def putRowB (w : World) (b : Nat) (vs : List Value) (e : TypeId) : World := { w with heap := w.heap.setIfInBounds b (.cells ⟨vs⟩ e (0, 0)) }

theorem heap_putRowB (w : World) (b : Nat) (vs : List Value) (e : TypeId) (k : Nat) :
    (putRowB w b vs e).heap[k]? = if b = k then (if k < w.heap.size then some (.cells ⟨vs⟩ e (0, 0)) else none) else w.heap[k]? := by
  simp only [putRowB, Array.getElem?_setIfInBounds]
  split
  · rename_i h; subst h; rfl
  · rfl

theorem lt_of_getElem? {α : Type} {l : Array α} {i : Nat} {x : α} (h : l[i]? = some x) : i < l.size := by
  rcases Nat.lt_or_ge i l.size with k | k
  · exact k
  · simp [Array.getElem?_eq_none k] at h
theorem lt_of_getElem?L {α : Type} {l : List α} {i : Nat} {x : α} (h : l[i]? = some x) : i < l.length := by
  rcases Nat.lt_or_ge i l.length with k | k
  · exact k
  · simp [List.getElem?_eq_none k] at h

theorem world_ext {w w' : World} (h1 : w.heap = w'.heap) (h2 : w.tape = w'.tape) (h3 : w.drawn = w'.drawn) (h4 : w.os = w'.os) (h5 : w.output = w'.output) : w = w' := by
  cases w; cases w'; simp_all

theorem putRowB_same {w : World} {b : Nat} {vs : List Value} {e : TypeId} (h : w.heap[b]? = some (.cells ⟨vs⟩ e (0, 0))) : putRowB w b vs e = w := by
  refine world_ext ?_ rfl rfl rfl rfl
  apply Array.ext_getElem?
  intro k
  rw [heap_putRowB]
  split
  · rename_i hk; subst hk; rw [if_pos (lt_of_getElem? h), h]
  · rfl

theorem setCell_row {w : World} {b o : Nat} {vs : List Value} {e : TypeId} {v : Value} (h : w.heap[b]? = some (.cells ⟨vs⟩ e (0, 0))) :
    w.setCell ⟨b, o, none⟩ v = putRowB w b (vs.set o v) e := by
  refine world_ext ?_ rfl rfl rfl rfl
  apply Array.ext_getElem?
  intro k
  rw [heap_putRowB]
  simp only [World.setCell, Array.getElem?_modify]
  split
  · rename_i hk; subst hk; rw [if_pos (lt_of_getElem? h), h]; simp
  · rfl

theorem putRowB_putRowB {w : World} {b : Nat} {vs us : List Value} {e : TypeId} : putRowB (putRowB w b vs e) b us e = putRowB w b us e := by
  simp [putRowB]

theorem storeCells_run {P : Program} {b o : Nat} {e : TypeId} (us : List Value) : ∀ (i : Nat) (w : World) (vs : List Value), (∀ u ∈ us, u.oneCell' = true) →
    w.heap[b]? = some (.cells ⟨vs⟩ e (0, 0)) → o + i + us.length ≤ vs.length →
    (storeCells ⟨b, o, none⟩ us i).run P w = .ok () (putRowB w b (setV vs (o + i) us) e) := by
  induction us with
  | nil => intro i w vs _ h _; simp [storeCells, setV, putRowB_same h]
  | cons u us ih =>
    intro i w vs hu h hle
    simp only [List.length_cons] at hle
    have hc : w.cell? ⟨b, o + i, none⟩ = some vs[o + i] := by rw [cell_of_heap h]; exact List.getElem?_eq_getElem (by omega)
    have hf : w.frozen? ⟨b, o + i, none⟩ = false := by simp [World.frozen?, h]
    simp only [storeCells, Sem.run_bind, addr_add]
    rw [run_store _ _ _ _ _ (hu u (by simp))]
    simp only [hc, hf, Result.andThen_ok, Bool.false_eq_true, if_false]
    rw [setCell_row h]
    have h' : (putRowB w b (vs.set (o + i) u) e).heap[b]? = some (.cells ⟨vs.set (o + i) u⟩ e (0, 0)) := by
      rw [heap_putRowB, if_pos rfl, if_pos (lt_of_getElem? h)]
    rw [ih (i + 1) _ (vs.set (o + i) u) (fun x hx => hu x (by simp [hx])) h' (by simp; omega), putRowB_putRowB]
    rfl

theorem cell?_congr {w w' : World} {b : Nat} (h : w'.heap[b]? = w.heap[b]?) (o : Nat) : w'.cell? ⟨b, o, none⟩ = w.cell? ⟨b, o, none⟩ := by
  simp [World.cell?, h]

theorem shape_of_heap {w : World} {b : Nat} {vs : List Value} {e : TypeId} {fz : Nat × Nat} (h : w.heap[b]? = some (.cells ⟨vs⟩ e fz)) : w.shape? b = some (e, vs.length) := by
  simp [World.shape?, h]

/-- A block's row replaced by a related one of the same length. -/
theorem Inv.putRow {E : Env} {L : Lim} {g : Ghost} {w : World} {s : Sto} (h : Inv E g w s) {id b : Nat} {cs' : List AV} {vs vs' : List Value} {e : TypeId}
    (hb : g.blk id = some b) (hh : w.heap[b]? = some (.cells ⟨vs⟩ e (0, 0))) (hvl : vs'.length = vs.length) (hro : L.ro ≤ id) (hle : cs'.length ≤ vs'.length) (hl : VL g w cs' (vs'.take cs'.length)) :
    Ext L g w g (putRowB w b vs' e) ∧ Inv E g (putRowB w b vs' e) { s with bs := s.bs.set id cs' } := by
  have hlt := h.blkLt hb
  have hne : ∀ k, k ≠ b → (putRowB w b vs' e).heap[k]? = w.heap[k]? := fun k hk => by rw [heap_putRowB, if_neg (fun h => hk h.symm)]
  have hat : (putRowB w b vs' e).heap[b]? = some (.cells ⟨vs'⟩ e (0, 0)) := by rw [heap_putRowB, if_pos rfl, if_pos hlt]
  have hsz : (putRowB w b vs' e).heap.size = w.heap.size := by simp [putRowB]
  have ext : Ext L g w g (putRowB w b vs' e) := {
    os := rfl, tape := rfl, output := rfl, size := by rw [hsz]; exact Nat.le_refl _
    mono := fun _ _ hi => hi
    cell := fun k o hi => cell?_congr (hne k (fun hk => h.blkI id b o hb (hk ▸ hi))) o
    blk := fun _ _ hi => .inl hi
    dead := fun _ hi => hi
    shape := fun id' b' hb' _ => by
      by_cases hk : b' = b
      · subst hk; rw [shape_of_heap hat, shape_of_heap hh, hvl]
      · exact shape_congr (hne b' hk)
    tok := fun _ l hl => ⟨l, hl, .inl rfl⟩
    keepB := fun id' b' hb' hlt' => ⟨hb', hne b' (fun hk => by subst hk; have := h.injB id id' b' hb hb'; omega)⟩
    keepT := fun t l hl _ => ⟨hl, hne _ (fun hk => h.injBT id b t l hb hl hk.symm), fun _ ho => ho⟩
    out := fun k _ h1 _ _ => ⟨hne k (fun hk => h1 id (hk ▸ hb)), fun _ ho => ho⟩
    mp := fun _ _ hb => hb
    keepM := fun _ b' hb' => ⟨fun _ => hne b' (fun hk => h.mpB hb' (hk ▸ hb)), fun _ ho => ho⟩
    newM := fun id' _ hb _ => ⟨id', hb⟩
    newB := fun id' _ hb _ => ⟨id', hb⟩
    pend := fun _ h => h
    newT := fun _ l hl _ => ⟨l, hl, rfl⟩ }
  refine ⟨ext, ?_⟩
  exact {
    blkN := fun id' b' hb' => by simpa using h.blkN id' b' hb'
    deadN := fun id' hd => by simpa using h.deadN id' hd
    deadE := fun id' hd => by
      have hid : id ≠ id' := fun e => by subst e; have := g.hd _ hd; rw [this] at hb; simp at hb
      simp only [List.getElem?_set_ne hid]; exact h.deadE id' hd
    blk := fun id' b' hb' => by
      by_cases hid : id' = id
      · subst hid
        have : b' = b := by rw [hb] at hb'; simpa using hb'.symm
        subst this
        exact ⟨cs', vs', e, by simp [h.blkN _ _ hb], hat, hle, hl.mono ext⟩
      · obtain ⟨cs, us, e', h1, h2, h3, h4⟩ := h.blk id' b' hb'
        exact ⟨cs, us, e', by simp only [List.getElem?_set_ne (Ne.symm hid)]; exact h1, by rw [hne b' (fun hk => hid (h.injB id' id b' hb' (hk ▸ hb)))]; exact h2, h3, h4.mono ext⟩
    blkI := h.blkI
    tokN := h.tokN
    tokL := h.tokL
    tok := fun t l hl => by
      obtain ⟨us, e', h1, h2⟩ := h.tok t l hl
      exact ⟨us, e', by rw [hne _ (fun hk => h.injBT id b t l hb hl hk.symm)]; exact h1, h2⟩
    tokI := h.tokI
    injB := h.injB
    injT := h.injT
    injBT := h.injBT
    Ilt := fun k o hi => by rw [hsz]; exact h.Ilt k o hi
    allB := fun id hid => h.allB id (by simpa using hid)
    mp := h.mpKeep (fun id' b' hb' => List.getElem?_set_ne (h.mpNe hb hb')) (fun id' b' hb' => hne b' (fun hk => h.mpB hb' (hk ▸ hb)))
    mpX := h.mpX
    injM := h.injM
    pendN := fun id hp => by obtain ⟨a, b, c⟩ := h.pendN id hp; exact ⟨by simpa using a, b, c⟩
    glob := fun gl row hr j c hj => by
      obtain ⟨v, h1, h2, h3⟩ := h.glob gl row hr j c hj
      exact ⟨v, h1, by rw [ext.cell _ _ h1]; exact h2, h3.mono ext.mono ext.cell⟩ }

theorem setV_take (us : List Value) : ∀ (vs : List Value) (k n : Nat), (setV vs k us).take n = setV (vs.take n) k us := by
  induction us with
  | nil => intro vs k n; rfl
  | cons u us ih =>
    intro vs k n
    simp only [setV]
    rw [ih, List.take_set]

theorem storeA_sound {E : Env} {L : Lim} {g : Ghost} {w : World} {s s' : Sto} (hI : Inv E g w s) {t : TypeId} {a x : AV} {av xv : Value}
    (ha : V g w a av) (hx : V g w x xv) (h : storeA E L s t a x = some s') :
    ∃ w', (Instr.storeAt t av xv).run E.P w = .ok () w' ∧ Ext L g w g w' ∧ Inv E g w' s' := by
  unfold storeA at h
  split at h
  · rename_i id off i hi
    split at h
    · rename_i cs hcs
      simp only at h
      split at h
      · rename_i hc
        obtain ⟨h1, h2, h3, h4, _, hi0⟩ := hc
        simp at h; subst h
        simp only [lookB] at hcs
        cases ha with
        | ptrD hd =>
          have := hI.deadE id hd
          rw [hcs] at this; simp at this; subst this
          rw [h1] at h2; simp at h2; omega
        | @ptr _ _ b hb =>
          obtain ⟨cs', vs, e, k1, k2, kle, k3⟩ := hI.blk id b hb
          rw [hcs] at k1; simp at k1; subst k1
          have hv := cellsOf_sound hx h4
          have hone : ∀ u ∈ xv.cells.toList, u.oneCell' = true := by
            intro u hu
            obtain ⟨j, hj, rfl⟩ := List.mem_iff_getElem.1 hu
            have hj' : j < (cellsOf x).length := by rw [hv.len]; exact hj
            exact okCell_one (hv.at_ j (cellsOf x)[j] _ (by simp [hj']) (by simp)) (by
              have := List.all_eq_true.1 h4 (cellsOf x)[j] (by simp); exact this)
          have hlen : xv.cells.size = i.size := by rw [← Array.length_toList, ← hv.len]; exact h1
          refine ⟨_, ?_, (hI.putRow (vs' := setV vs off xv.cells.toList) (cs' := setCells cs off (cellsOf x)) hb k2 (setV_length _ _ _) h3 (by rw [setCells_length, setV_length]; exact kle) (by rw [setCells_length, setV_take]; exact VL.setCells off k3 hv))⟩
          simp only [Instr.storeAt, Instr.sureAddr, storeVar, Sem.run_bind, Sem.run_pure, Result.andThen_ok, run_sizeOf hi, hlen, ne_eq, not_true_eq_false, if_false]
          have := storeCells_run (P := E.P) (b := b) (o := off) (e := e) xv.cells.toList 0 w vs hone k2 (by rw [← hv.len]; omega)
          simpa using this
      · simp at h
    · simp at h
  · simp at h

theorem VL.full {g : Ghost} {w : World} {cs : List AV} {vs : List Value} (h : VL g w cs vs) : cs.length ≤ vs.length ∧ VL g w cs (vs.take cs.length) :=
  ⟨by rw [h.len]; exact Nat.le_refl _, by rw [h.len, List.take_length]; exact h⟩

/-- A new block of cells. -/
def pushW (w : World) (vs : List Value) (e : TypeId) : World := { w with heap := w.heap.push (.cells ⟨vs⟩ e (0, 0)) }

theorem heap_pushW (w : World) (vs : List Value) (e : TypeId) (k : Nat) :
    (pushW w vs e).heap[k]? = if k = w.heap.size then some (.cells ⟨vs⟩ e (0, 0)) else w.heap[k]? := by
  simp [pushW, Array.getElem?_push]

theorem heap_pushW_lt {w : World} {vs : List Value} {e : TypeId} {k : Nat} (h : k < w.heap.size) : (pushW w vs e).heap[k]? = w.heap[k]? := by
  rw [heap_pushW, if_neg (by omega)]

def Ghost.addB (g : Ghost) (id b : Nat) (h : ¬ g.dead id) : Ghost := { g with blk := fun i => if i = id then some b else g.blk i, hd := fun i hi => (if_neg (fun e : i = id => h (e ▸ hi))).trans (g.hd i hi) }
def Ghost.addI (g : Ghost) (J : Nat → Nat → Prop) : Ghost := { g with I := fun b o => g.I b o ∨ J b o }

theorem Inv.fresh {E : Env} {g : Ghost} {w : World} {s : Sto} (h : Inv E g w s) : ¬ g.dead s.bs.length := fun hd => by have := h.deadN _ hd; omega

theorem Inv.pushB {E : Env} {L : Lim} {g : Ghost} {w : World} {s : Sto} (h : Inv E g w s) {cs : List AV} {vs : List Value} (e : TypeId) (hle : cs.length ≤ vs.length) (hl : VL g w cs (vs.take cs.length)) :
    Ext L g w (g.addB s.bs.length w.heap.size h.fresh) (pushW w vs e) ∧ Inv E (g.addB s.bs.length w.heap.size h.fresh) (pushW w vs e) { s with bs := s.bs ++ [cs] } := by
  have hsz : (pushW w vs e).heap.size = w.heap.size + 1 := by simp [pushW]
  have hne : ∀ id b, g.blk id = some b → id ≠ s.bs.length := fun id b hb => Nat.ne_of_lt (h.blkN id b hb)
  have hbk : ∀ id b, g.blk id = some b → (g.addB s.bs.length w.heap.size h.fresh).blk id = some b := fun id b hb => by simp [Ghost.addB, hne id b hb, hb]
  have inv : ∀ id b, (g.addB s.bs.length w.heap.size h.fresh).blk id = some b → (id = s.bs.length ∧ b = w.heap.size) ∨ g.blk id = some b := fun id b hb => by
    simp only [Ghost.addB] at hb
    split at hb
    · simp at hb; exact .inl ⟨by assumption, hb.symm⟩
    · exact .inr hb
  have ext : Ext L g w (g.addB s.bs.length w.heap.size h.fresh) (pushW w vs e) := {
    os := rfl, tape := rfl, output := rfl, size := by rw [hsz]; exact Nat.le_succ _
    mono := fun _ _ hi => hi
    cell := fun k o hi => cell?_congr (heap_pushW_lt (h.Ilt k o hi)) o
    blk := fun id b hb => .inl (hbk id b hb)
    dead := fun _ hd => hd
    shape := fun id b hb _ => shape_congr (heap_pushW_lt (h.blkLt hb))
    tok := fun _ l hl => ⟨l, hl, .inl rfl⟩
    keepB := fun id b hb _ => ⟨hbk id b hb, heap_pushW_lt (h.blkLt hb)⟩
    keepT := fun t l hl _ => ⟨hl, heap_pushW_lt (h.tokLt hl), fun _ ho => ho⟩
    out := fun k hk _ _ _ => ⟨heap_pushW_lt hk, fun _ ho => ho⟩
    mp := fun _ _ hb => hb
    keepM := fun _ b' hb' => ⟨fun _ => heap_pushW_lt (h.mpLt hb'), fun _ ho => ho⟩
    newM := fun id' _ hb _ => ⟨id', hb⟩
    newB := fun id b hb hlt => by
      rcases inv id b hb with ⟨_, rfl⟩ | hb
      · omega
      · exact ⟨id, hb⟩
    pend := fun _ h => h
    newT := fun _ l hl _ => ⟨l, hl, rfl⟩ }
  refine ⟨ext, ?_⟩
  exact {
    blkN := fun id b hb => by
      rcases inv id b hb with ⟨rfl, _⟩ | hb
      · simp
      · have := h.blkN id b hb; simp; omega
    deadN := fun id hd => by have := h.deadN id hd; simp; omega
    deadE := fun id hd => by rw [List.getElem?_append_left (h.deadN id hd)]; exact h.deadE id hd
    blk := fun id b hb => by
      rcases inv id b hb with ⟨rfl, rfl⟩ | hb
      · exact ⟨cs, vs, e, by simp, by rw [heap_pushW, if_pos rfl], hle, hl.mono ext⟩
      · obtain ⟨cs', us, e', h1, h2, h3, h4⟩ := h.blk id b hb
        exact ⟨cs', us, e', by simp only [List.getElem?_append_left (h.blkN id b hb)]; exact h1, by rw [heap_pushW_lt (h.blkLt hb)]; exact h2, h3, h4.mono ext⟩
    blkI := fun id b o hb hi => by
      rcases inv id b hb with ⟨_, rfl⟩ | hb
      · have := h.Ilt _ o hi; omega
      · exact h.blkI id b o hb hi
    tokN := h.tokN
    tokL := h.tokL
    tok := fun t l hl => by
      obtain ⟨us, e', h1, h2⟩ := h.tok t l hl
      exact ⟨us, e', by rw [heap_pushW_lt (h.tokLt hl)]; exact h1, h2⟩
    tokI := h.tokI
    injB := fun id id' b hb hb' => by
      rcases inv id b hb with ⟨e1, rfl⟩ | hb
      · rcases inv id' _ hb' with ⟨e2, _⟩ | hb'
        · rw [e1, e2]
        · have := h.blkLt hb'; omega
      · rcases inv id' b hb' with ⟨_, rfl⟩ | hb'
        · have := h.blkLt hb; omega
        · exact h.injB id id' b hb hb'
    injT := h.injT
    injBT := fun id b t l hb hl => by
      rcases inv id b hb with ⟨_, rfl⟩ | hb
      · have := h.tokLt hl; omega
      · exact h.injBT id b t l hb hl
    Ilt := fun k o hi => by rw [hsz]; have := h.Ilt k o hi; omega
    allB := fun id hid => by
      by_cases e : id = s.bs.length
      · exact .inl ⟨_, if_pos e⟩
      · rcases h.allB id (by simp at hid; omega) with ⟨b, hb⟩ | q
        · exact .inl ⟨b, (if_neg e).trans hb⟩
        · exact .inr q
    mp := h.mpKeep (fun id' b' hb' => List.getElem?_append_left (h.mpN hb')) (fun id' b' hb' => heap_pushW_lt (h.mpLt hb'))
    mpX := fun id b hb => by
      obtain ⟨a1, a2, a3⟩ := h.mpX id b hb
      exact ⟨(if_neg (Nat.ne_of_lt (h.mpN hb))).trans a1, a2, a3⟩
    injM := h.injM
    pendN := fun id hp => by
      obtain ⟨a, b, c⟩ := h.pendN id hp
      exact ⟨by simp; omega, (if_neg (by omega)).trans b, c⟩
    glob := fun gl row hr j c hj => by
      obtain ⟨v, h1, h2, h3⟩ := h.glob gl row hr j c hj
      exact ⟨v, h1, by rw [ext.cell _ _ h1]; exact h2, h3.mono ext.mono ext.cell⟩ }

/-- A new object. -/
def objW (w : World) (o : Obj) : World := { w with heap := w.heap.push o }
theorem heap_objW (w : World) (o : Obj) (k : Nat) : (objW w o).heap[k]? = if k = w.heap.size then some o else w.heap[k]? := by simp [objW, Array.getElem?_push]
theorem heap_objW_lt {w : World} {o : Obj} {k : Nat} (h : k < w.heap.size) : (objW w o).heap[k]? = w.heap[k]? := by rw [heap_objW, if_neg (by omega)]

/-- A new object that is never written. -/
theorem Inv.pushO {E : Env} {L : Lim} {g : Ghost} {w : World} {s : Sto} (h : Inv E g w s) (o : Obj) :
    Ext L g w (g.addI fun b _ => b = w.heap.size) (objW w o) ∧ Inv E (g.addI fun b _ => b = w.heap.size) (objW w o) s := by
  have hsz : (objW w o).heap.size = w.heap.size + 1 := by simp [objW]
  have ext : Ext L g w (g.addI fun b _ => b = w.heap.size) (objW w o) := {
    os := rfl, tape := rfl, output := rfl, size := by rw [hsz]; exact Nat.le_succ _
    mono := fun _ _ hi => .inl hi
    cell := fun k o hi => cell?_congr (heap_objW_lt (h.Ilt k o hi)) o
    blk := fun _ _ hb => .inl hb
    dead := fun _ hd => hd
    shape := fun id b hb _ => shape_congr (heap_objW_lt (h.blkLt hb))
    tok := fun _ l hl => ⟨l, hl, .inl rfl⟩
    keepB := fun id b hb _ => ⟨hb, heap_objW_lt (h.blkLt hb)⟩
    keepT := fun t l hl _ => ⟨hl, heap_objW_lt (h.tokLt hl), fun o ho => ho.resolve_right (fun e => by have := h.tokLt hl; omega)⟩
    out := fun k hk _ _ _ => ⟨heap_objW_lt hk, fun o ho => ho.resolve_right (fun e => by omega)⟩
    mp := fun _ _ hb => hb
    keepM := fun _ b' hb' => ⟨fun _ => heap_objW_lt (h.mpLt hb'), fun o ho => ho.resolve_right (fun e => by have := h.mpLt hb'; omega)⟩
    newM := fun id' _ hb _ => ⟨id', hb⟩
    newB := fun id _ hb _ => ⟨id, hb⟩
    pend := fun _ h => h
    newT := fun _ l hl _ => ⟨l, hl, rfl⟩ }
  refine ⟨ext, ?_⟩
  exact {
    blkN := h.blkN
    deadN := h.deadN
    deadE := h.deadE
    blk := fun id b hb => by
      obtain ⟨cs', us, e', h1, h2, h3, h4⟩ := h.blk id b hb
      exact ⟨cs', us, e', h1, by rw [heap_objW_lt (h.blkLt hb)]; exact h2, h3, h4.mono ext⟩
    blkI := fun id b o hb hi => by
      rcases hi with hi | hi
      · exact h.blkI id b o hb hi
      · have := h.blkLt hb; omega
    tokN := h.tokN
    tokL := h.tokL
    tok := fun t l hl => by
      obtain ⟨us, e', h1, h2⟩ := h.tok t l hl
      exact ⟨us, e', by rw [heap_objW_lt (h.tokLt hl)]; exact h1, h2⟩
    tokI := fun t l o hl hle hi => by
      rcases hi with hi | hi
      · exact h.tokI t l o hl hle hi
      · have := h.tokLt hl; omega
    injB := h.injB
    injT := h.injT
    injBT := h.injBT
    Ilt := fun k o hi => by
      rw [hsz]
      rcases hi with hi | hi
      · have := h.Ilt k o hi; omega
      · omega
    allB := h.allB
    mp := h.mpKeep (fun _ _ _ => rfl) (fun _ _ hb' => heap_objW_lt (h.mpLt hb'))
    mpX := h.mpX
    injM := h.injM
    pendN := h.pendN
    glob := fun gl row hr j c hj => by
      obtain ⟨v, h1, h2, h3⟩ := h.glob gl row hr j c hj
      exact ⟨v, .inl h1, by rw [ext.cell _ _ h1]; exact h2, h3.mono ext.mono ext.cell⟩ }

/-- A new row that is never written. -/
theorem Inv.pushI {E : Env} {L : Lim} {g : Ghost} {w : World} {s : Sto} (h : Inv E g w s) (vs : List Value) (e : TypeId) :
    Ext L g w (g.addI fun b _ => b = w.heap.size) (pushW w vs e) ∧ Inv E (g.addI fun b _ => b = w.heap.size) (pushW w vs e) s := h.pushO _

end Go.Tel
