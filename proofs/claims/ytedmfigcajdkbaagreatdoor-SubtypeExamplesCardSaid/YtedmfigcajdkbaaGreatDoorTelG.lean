/-
  Single operations, part 5: slices made, cut and appended to.
-/
import Derived.Test.YtedmfigcajdkbaaGreatDoorTelF
namespace Go.Tel

theorem fillA_length {place : Nat → Option (Nat × Nat)} (parts : List (Nat × AV)) : ∀ (cs cs' : List AV), fillA place cs parts = some cs' → cs'.length = cs.length := by
  induction parts with
  | nil => intro cs cs' h; simp [fillA] at h; rw [h]
  | cons p parts ih =>
    intro cs cs' h
    simp only [fillA] at h
    split at h
    · simp at h
    · split at h
      · rw [ih _ _ h, setCells_length]
      · simp at h

theorem buildSliceA_sound {E : Env} {L : Lim} {g : Ghost} {w : World} {s s' : Sto} (hI : Inv E g w s) {t : TypeId} {len : Nat} {parts : List (Nat × AV)} {ps : List (Nat × Value)} {v : AV}
    (hk : parts.map (·.1) = ps.map (·.1)) (hv : ∀ (i : Nat) p q, parts[i]? = some p → ps[i]? = some q → V g w p.2 q.2) (h : buildSliceA E.P L s t len parts = some (v, s')) :
    ∃ v' w' g', (Instr.buildSlice t len ps.toArray).run E.P w = .ok v' w' ∧ V g' w' v v' ∧ Ext L g w g' w' ∧ Inv E g' w' s' := by
  unfold buildSliceA at h
  split at h
  · rename_i elem hu
    split at h
    · rename_i k z hk' hz
      split at h
      · rename_i hc
        obtain ⟨hc1, hc2, hc3⟩ := hc
        split at h
        · rename_i cs hf
          obtain ⟨i, hi, his⟩ := sizeA_info hk'
          obtain ⟨i', zv, hi', hz', hrun, hzl⟩ := zeroOf_sound (g := g) (w := w) hz
          have hzs : zv.cells.size = k := by rw [← Array.length_toList, ← hzl.len]; exact hc2
          obtain ⟨vs', hfill, hvl⟩ := fill_sound (place := fun i => some (i * k, k)) parts hk hv (hzl.repl len) hf
          have hcl : cs.length = len * k := by rw [fillA_length _ _ _ hf, repl_length, hc2]
          have hlen : vs'.length = len * k := by rw [← hvl.len]; exact hcl
          have hr : (Instr.buildSlice t len ps.toArray).run E.P w = .ok (.slice (some ⟨w.heap.size, 0, none⟩) len len) (pushW w vs' elem) := by
            simp only [Instr.buildSlice, Sem.run_bind, run_underlying hu, Result.andThen_ok, run_sizeOf hi, his]
            rw [if_neg (by omega)]
            by_cases hl0 : len * k = 0
            · have hl0' : len = 0 := by
                rcases Nat.mul_eq_zero.1 hl0 with x | x
                · exact x
                · exact absurd x hc3
              subst hl0'
              have hvs0 : Tel.repl 0 zv.cells.toList = [] := rfl
              rw [hvs0] at hfill
              simp only [Nat.zero_mul, if_true, Sem.run_bind, Sem.run_pure, Result.andThen_ok]
              rw [show (Array.map (fun x => (#[] : Array Value)[x % (#[] : Array Value).size]!) (Array.range 0)) = ⟨[]⟩ from by apply Array.ext'; simp, hfill]
              rfl
            · simp only [hl0, if_false, Sem.run_bind, hrun, Result.andThen_ok, Sem.run_pure]
              have := zero_cells zv.cells len (by omega)
              rw [hzs] at this ⊢
              rw [this, hfill]
              rfl
          cases hmu : (L.mu elem && Nat.blt 0 len) with
          | true =>
            simp only [hmu, cond_true] at h
            simp only [Option.some.injEq, Prod.mk.injEq] at h
            obtain ⟨rfl, rfl⟩ := h
            obtain ⟨e1, e2⟩ := hI.pushB (L := L) elem hvl.full.1 hvl.full.2
            refine ⟨_, _, _, hr, V.ref (b := w.heap.size) (e := elem) (n := vs'.length) ?_ (Nat.le_refl _) ?_ ?_, e1, e2⟩
            · simp [Ghost.addB]
            · exact shape_of_heap (by rw [heap_pushW, if_pos rfl])
            · omega
          | false =>
            simp only [hmu, cond_false] at h
            split at h
            · rename_i qs hq
              simp only [Option.some.injEq, Prod.mk.injEq] at h
              obtain ⟨rfl, rfl⟩ := h
              obtain ⟨e1, e2⟩ := hI.pushI (L := L) vs' elem
              obtain ⟨k1, k2⟩ := toPVs_sound hvl hq
              have hflat : Flat g.I w (rowsBy k len qs) k vs' := flat_of_pvs hlen k1 k2
              have hflat' := hflat.mono e1.mono e1.cell
              have hra := hflat'.rowsAt (b := w.heap.size) (o := 0) (fun q _ => .inr rfl) (fun q u hq => by
                rw [cell_of_heap (by rw [heap_pushW, if_pos rfl])]; simpa using hq)
              refine ⟨_, _, _, hr, ?_, e1, e2⟩
              have := V.capped (g := g.addI fun b _ => b = w.heap.size) (w := pushW w vs' elem) hra
              rw [rowsBy_length] at this
              exact this
            · simp at h
        · simp at h
      · simp at h
    · simp at h
  · simp at h

theorem Inv.alive {E : Env} {g : Ghost} {w : World} {s : Sto} (h : Inv E g w s) {id : Nat} (ha : Tel.alive s id = true) : ¬ g.dead id := fun hd => by
  have := h.deadE id hd
  simp [Tel.alive, this] at ha

theorem indexAddrA_sound {E : Env} {P : Program} {g : Ghost} {w : World} {s : Sto} (hI : Inv E g w s) {t : TypeId} {x ix v : AV} {xv iv : Value} (hx : V g w x xv) (hi : V g w ix iv) (h : indexAddrA P s t x ix = some v) :
    ∃ v', (Instr.indexAt t xv iv).run P w = .ok v' w ∧ V g w v v' := by
  unfold indexAddrA at h
  have hint : ∀ i, intOfA ix = some i → ∃ k, iv = .int k i := by
    intro i hi'
    unfold intOfA at hi'
    split at hi'
    · rename_i k n; simp at hi'; subst hi'; exact ⟨k, hi.scv_inv⟩
    · simp at hi'
  split at h
  · rename_i elem i hu hix
    obtain ⟨ik, rfl⟩ := hint i hix
    split at h
    · rename_i k hk
      obtain ⟨ti, hti, his⟩ := sizeA_info hk
      split at h
      · rename_i rows hrows
        split at h
        · rename_i h0
          split at h
          · rename_i row hrow
            split at h
            · rename_i hlen
              simp at h; subst h
              obtain ⟨base, cap, b, o, sz, f, rfl, hcap, hr⟩ := rowsOf_sound hx hrows
              have hsz : sz = k := by rw [← hr.hsz row (List.mem_of_getElem? hrow)]; exact hlen.1
              subst hsz
              have hb := hr.hbase (by intro e; rw [e] at hrow; simp at hrow) hlen.2
              subst hb
              have hlt := lt_of_getElem?L hrow
              refine ⟨_, ?_, V.eptr (b := b) (o := o + i.toNat * sz) 0 (fun j => f i.toNat j) (fun j c hj => ⟨(hr.hc _ row j c hrow hj).1, (hr.hc _ row j c hrow hj).2, hr.hv _ row j c hrow hj⟩)⟩
              have hi2 : i < (rows.length : Int) := by omega
              simp [Instr.indexAt, asIntOf, run_underlying hu, h0, hi2, run_sizeOf hti, his, addr_add]
            · simp at h
          · simp at h
        · simp at h
      · split at h
        · rename_i id off len sz
          split at h
          · rename_i hb
            obtain ⟨hb0, hb1, hb2, hal⟩ := hb
            simp at h; subst h
            cases hx with
            | @ref _ _ _ _ b cap n e hblk hcap hs hn =>
              refine ⟨_, ?_, V.ptr hblk⟩
              simp [Instr.indexAt, asIntOf, run_underlying hu, hb0, hb1, run_sizeOf hti, his, addr_add]
            | refD hd => exact absurd hd (hI.alive hal)
          · simp at h
        · simp at h
    · simp at h
  · rename_i len elem i hu hix
    obtain ⟨ik, rfl⟩ := hint i hix
    split at h
    · rename_i k hk
      obtain ⟨ti, hti, his⟩ := sizeA_info hk
      split at h
      · rename_i hb
        split at h
        · rename_i id off
          cases hal : Tel.alive s id with
          | false => simp [hal] at h
          | true =>
          simp [hal] at h; subst h
          cases hx with
          | ptrD hd => exact absurd hd (hI.alive hal)
          | @ptr _ _ b hblk =>
            refine ⟨_, ?_, V.ptr hblk⟩
            simp [Instr.indexAt, Instr.sureAddr, asIntOf, run_underlying hu, hb, run_sizeOf hti, his, addr_add]
        · simp at h; subst h
          cases hx with
          | gptr =>
            refine ⟨_, ?_, V.gptr _ _⟩
            simp [Instr.indexAt, Instr.sureAddr, asIntOf, run_underlying hu, hb, run_sizeOf hti, his, addr_add]
        · simp at h; subst h
          cases hx with
          | @eptr _ b o _ f hr =>
            refine ⟨_, ?_, V.eptr (b := b) (o := o) _ f hr⟩
            simp [Instr.indexAt, Instr.sureAddr, asIntOf, run_underlying hu, hb, run_sizeOf hti, his, addr_add, Nat.add_assoc]
        · simp at h
      · simp at h
    · simp at h
  · simp at h

theorem fieldAddrA_sound {E : Env} {P : Program} {g : Ghost} {w : World} {s : Sto} (hI : Inv E g w s) {t : TypeId} {x v : AV} {xv : Value} {fi : Nat} (hx : V g w x xv) (h : fieldAddrA P s t x fi = some v) :
    ∃ v', (∀ w2 : World, (Instr.fieldAt t xv fi).run P w2 = .ok v' w2) ∧ V g w v v' := by
  unfold fieldAddrA at h
  split at h
  · rename_i fields hu
    split at h
    · rename_i f hf
      split at h
      · rename_i k hk
        obtain ⟨ti, hti, his⟩ := sizeA_info hk
        split at h
        · simp at h
        · rename_i hk0
          have hk0' : ti.size ≠ 0 := by rw [his]; exact hk0
          split at h
          · rename_i id off
            cases hal : Tel.alive s id with
            | false => simp [hal] at h
            | true =>
            simp [hal] at h; subst h
            cases hx with
            | ptrD hd => exact absurd hd (hI.alive hal)
            | @ptr _ _ b hblk =>
              refine ⟨_, fun w2 => ?_, V.ptr hblk⟩
              simp [Instr.fieldAt, Instr.sureAddr, fieldPlace, run_underlying hu, hf, run_sizeOf hti, hk0', addr_add]
          · simp at h; subst h
            cases hx with
            | gptr =>
              refine ⟨_, fun w2 => ?_, V.gptr _ _⟩
              simp [Instr.fieldAt, Instr.sureAddr, fieldPlace, run_underlying hu, hf, run_sizeOf hti, hk0', addr_add]
          · simp at h; subst h
            cases hx with
            | @eptr _ b o _ ff hr =>
              refine ⟨_, fun w2 => ?_, V.eptr (b := b) (o := o) _ ff hr⟩
              simp [Instr.fieldAt, Instr.sureAddr, fieldPlace, run_underlying hu, hf, run_sizeOf hti, hk0', addr_add, Nat.add_assoc]
          · simp at h
      · simp at h
    · simp at h
  · simp at h

theorem fieldA_sound {P : Program} {g : Ghost} {w : World} {t : TypeId} {x v : AV} {xv : Value} {fi : Nat} (hx : V g w x xv) (h : fieldA P t x fi = some v) :
    ∃ v', (Instr.field t xv fi).run P w = .ok v' w ∧ V g w v v' := by
  unfold fieldA at h
  split at h
  · rename_i fields cs hu
    split at h
    · rename_i f hf
      obtain ⟨vs, rfl, hl⟩ := hx.agg_inv
      obtain ⟨v', h1, h2⟩ := partOf_sound (P := P) hl h
      exact ⟨v', by simp [Instr.field, run_underlying hu, hf, asAgg, h1], h2⟩
    · simp at h
  · simp at h

theorem run_mapM_list {P : Program} {α β : Type} {w : World} (f : α → Sem β) (h : α → β) (l : List α) (hf : ∀ x ∈ l, (f x).run P w = .ok (h x) w) :
    (l.mapM f).run P w = .ok (l.map h) w := by
  induction l with
  | nil => simp
  | cons x l ih =>
    rw [List.mapM_cons]
    simp only [Sem.run_bind, hf x (by simp), Result.andThen_ok, ih (fun y hy => hf y (by simp [hy])), Sem.run_pure, List.map_cons]

theorem run_mapM_array {P : Program} {α β : Type} {w : World} (f : α → Sem β) (h : α → β) (l : Array α) (hf : ∀ x ∈ l.toList, (f x).run P w = .ok (h x) w) :
    (l.mapM f).run P w = .ok (l.map h) w := by
  rw [Array.mapM_eq_mapM_toList]
  simp only [Sem.run_map, run_mapM_list f h l.toList hf, Result.andThen_ok]
  congr 1
  apply Array.ext'
  simp

theorem buildA_sound {P : Program} {g : Ghost} {w : World} {t : TypeId} {parts : List (Nat × AV)} {ps : List (Nat × Value)} {v : AV}
    (hk : parts.map (·.1) = ps.map (·.1)) (hv : ∀ (i : Nat) p q, parts[i]? = some p → ps[i]? = some q → V g w p.2 q.2) (h : buildA P t parts = some v) :
    ∃ v', (Instr.build t ps.toArray).run P w = .ok v' w ∧ V g w v v' := by
  unfold buildA at h
  split at h
  · rename_i z fields hz hu
    split at h
    · rename_i cs hf
      split at h
      · rename_i hall
        simp at h; subst h
        obtain ⟨i, zv, hi, hzv, hrun, hzl⟩ := zeroOf_sound (g := g) (w := w) hz
        obtain ⟨vs', hfill, hvl⟩ := fill_sound parts hk hv hzl hf
        refine ⟨.agg ⟨vs'⟩, ?_, V.agg' hvl⟩
        have hmap : (fields.mapM fun f => (do pure (f.offset, ← sizeOf f.type) : Sem (Nat × Nat))).run P w = .ok (fields.map fun f => (f.offset, (sizeA P f.type).getD 0)) w := by
          apply run_mapM_array
          intro f hfm
          have := Array.all_eq_true'.1 hall f (Array.mem_toList_iff.1 hfm)
          cases hs : sizeA P f.type with
          | none => simp [hs] at this
          | some k =>
            obtain ⟨ti, hti, his⟩ := sizeA_info hs
            simp [run_sizeOf hti, his]
        have hplace : (fun i => (fields.map fun f => (f.offset, (sizeA P f.type).getD 0))[i]?) = placeF P fields := by
          funext j
          rw [Array.getElem?_map]
          unfold placeF
          cases hj : fields[j]? with
          | none => rfl
          | some f =>
            have := Array.all_eq_true'.1 hall f (Array.mem_of_getElem? hj)
            cases hs : sizeA P f.type with
            | none => simp [hs] at this
            | some k => simp [hs]
        simp only [Instr.build, Sem.run_bind, hrun, Result.andThen_ok, run_underlying hu, hmap]
        rw [hplace]
        have e : (⟨zv.cells.toList⟩ : Array Value) = zv.cells := rfl
        rw [e] at hfill
        rw [hfill]
        rfl
      · simp at h
    · simp at h
  · rename_i z n elem hz hu
    split at h
    · rename_i k hk'
      split at h
      · rename_i cs hf
        simp at h; subst h
        obtain ⟨ti, hti, his⟩ := sizeA_info hk'
        obtain ⟨i, zv, hi, hzv, hrun, hzl⟩ := zeroOf_sound (g := g) (w := w) hz
        obtain ⟨vs', hfill, hvl⟩ := fill_sound parts hk hv hzl hf
        refine ⟨.agg ⟨vs'⟩, ?_, V.agg' hvl⟩
        simp only [Instr.build, Sem.run_bind, hrun, Result.andThen_ok, run_underlying hu, run_sizeOf hti, his]
        have e : (⟨zv.cells.toList⟩ : Array Value) = zv.cells := rfl
        rw [e] at hfill
        rw [hfill]
        rfl
      · simp at h
    · simp at h
  · simp at h

end Go.Tel
