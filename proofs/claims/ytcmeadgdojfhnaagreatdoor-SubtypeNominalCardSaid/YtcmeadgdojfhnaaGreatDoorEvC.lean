/-
  Single operations, part 5: slices made, cut and appended to.
-/
import Derived.Test.YtcmeadgdojfhnaaGreatDoorEvB
set_option linter.unusedSimpArgs false
set_option linter.unusedVariables false
namespace Go.Tel
theorem fillA_length {place : Nat → Option (Nat × Nat)} (parts : List (Nat × AV)) : ∀ (cs cs' : List AV), fillA place cs parts = some cs' → cs'.length = cs.length := by
  induction parts with
  | nil => grind[fillA]
  | cons p parts ih =>
    grind[fillA,setCells_length]
theorem buildSliceA_sound {E : Env} {L : Lim} {g : Ghost} {w : World} {s s' : Sto} (hI : Inv E g w s) {t : TypeId} {len : Nat} {parts : List (Nat × AV)} {ps : List (Nat × Value)} {v : AV}
    (hk : parts.map (·.1) = ps.map (·.1)) (hv : ∀ (i : Nat) p q, parts[i]? = some p → ps[i]? = some q → V g w p.2 q.2) (h : buildSliceA E.P L s t len parts = some (v, s')) :
    ∃ v' w' g', (Instr.buildSlice t len ps.toArray).run E.P w = .ok v' w' ∧ V g' w' v v' ∧ Ext L g w g' w' ∧ Inv E g' w' s' := by
  unfold buildSliceA at h
  split at h
  · rename_i elem hu
    split at h
    · rename_i k z hk' hz
      split at h
      · rename_i hc
        obtain ⟨hc1, hc2, hc3⟩ := hc
        split at h
        · rename_i cs hf
          obtain ⟨i, hi, his⟩ := sizeA_info hk'
          obtain ⟨i', zv, hi', hz', hrun, hzl⟩ := zeroOf_sound (g := g) (w := w) hz
          have hzs : zv.cells.size = k := by rw [← Array.length_toList, ← hzl.len]; omega
          obtain ⟨vs', hfill, hvl⟩ := fill_sound (place := fun i => some (i * k, k)) parts hk hv (hzl.repl len) hf
          have hcl : cs.length = len * k := by grind[fillA_length,repl_length]
          have hlen : vs'.length = len * k := by rw [← hvl.len]; omega
          have hr : (Instr.buildSlice t len ps.toArray).run E.P w = .ok (.slice (some ⟨w.heap.size, 0, none⟩) len len) (pushW w vs' elem) := by
            simp only [Instr.buildSlice, Sem.run_bind, run_underlying hu, Result.andThen_ok, run_sizeOf hi, his]
            rw [if_neg (by omega)]
            by_cases hl0 : len * k = 0
            · have hl0' : len = 0 := by grind[Nat.mul_eq_zero]
              subst hl0'
              have hvs0 : Tel.repl 0 zv.cells.toList = [] := rfl
              rw [hvs0] at hfill
              simp only [Nat.zero_mul, if_true, Sem.run_bind, Sem.run_pure, Result.andThen_ok]
              rw [show (Array.map (fun x => (#[] : Array Value)[x % (#[] : Array Value).size]!) (Array.range 0)) = ⟨[]⟩ from by simp, hfill]
              rfl
            · simp only [hl0, if_false, Sem.run_bind, hrun, Result.andThen_ok, Sem.run_pure]
              have := zero_cells zv.cells len (by omega)
              rw [hzs] at this ⊢
              rw [this, hfill]
              rfl
          cases hmu : (muL L elem && Nat.blt 0 len) with
          | true =>
            simp only [hmu, cond_true] at h
            simp only [Option.some.injEq, Prod.mk.injEq] at h
            obtain ⟨rfl, rfl⟩ := h
            obtain ⟨e1, e2⟩ := hI.pushB (L := L) elem hvl.full.1 hvl.full.2
            refine ⟨_, _, _, hr, V.ref (b := w.heap.size) (e := elem) (n := vs'.length) ?_ (Nat.le_refl _) ?_ ?_, e1, e2⟩
            · simp [Ghost.addB]
            · exact shape_of_heap (by rw [heap_pushW, if_pos rfl])
            omega
          | false =>
            simp only [hmu, cond_false] at h
            split at h
            · rename_i qs hq
              simp only [Option.some.injEq, Prod.mk.injEq] at h
              obtain ⟨rfl, rfl⟩ := h
              obtain ⟨e1, e2⟩ := hI.pushI (L := L) vs' elem
              obtain ⟨k1, k2⟩ := toPVs_sound hvl hq
              have hflat : Flat g.I w (rowsBy k len qs) k vs' := flat_of_pvs hlen k1 k2
              have hflat' := hflat.mono e1.mono e1.cell
              have hra := hflat'.rowsAt (b := w.heap.size) (o := 0) (fun q _ => .inr rfl) (fun q u hq => by
                rw [cell_of_heap (by rw [heap_pushW, if_pos rfl])]; grind)
              refine ⟨_, _, _, hr, ?_, e1, e2⟩
              grind[V.capped,rowsBy_length]
            grind
        grind
      grind
    grind
  grind
theorem Inv.alive {E : Env} {g : Ghost} {w : World} {s : Sto} (h : Inv E g w s) {id : Nat} (ha : Tel.alive s id = true) : ¬ g.dead id := fun hd => by
  have := h.deadE id hd
  grind[Tel.alive]
theorem indexAddrA_sound {E : Env} {P : Program} {g : Ghost} {w : World} {s : Sto} (hI : Inv E g w s) {t : TypeId} {x ix v : AV} {xv iv : Value} (hx : V g w x xv) (hi : V g w ix iv) (h : indexAddrA P s t x ix = some v) :
    ∃ v', (Instr.indexAt t xv iv).run P w = .ok v' w ∧ V g w v v' := by
  unfold indexAddrA at h
  have hint : ∀ i, intOfA ix = some i → ∃ k, iv = .int k i := by
    intro i hi'
    unfold intOfA at hi'
    split at hi'
    · rename_i k n; simp at hi'; subst hi'; exact ⟨k, hi.scv_inv⟩
    grind
  split at h
  · rename_i elem i hu hix
    obtain ⟨ik, rfl⟩ := hint i hix
    split at h
    · rename_i k hk
      obtain ⟨ti, hti, his⟩ := sizeA_info hk
      split at h
      · rename_i rows hrows
        split at h
        · rename_i h0
          split at h
          · rename_i row hrow
            split at h
            · rename_i hlen
              simp at h; subst h
              obtain ⟨base, cap, b, o, sz, f, rfl, hcap, hr⟩ := rowsOf_sound hx hrows
              have hsz : sz = k := by rw [← hr.hsz row (List.mem_of_getElem? hrow)]; omega
              subst hsz
              have hb := hr.hbase (by grind) hlen.2
              subst hb
              have hlt := lt_of_getElem?L hrow
              refine ⟨_, ?_, V.eptr (b := b) (o := o + i.toNat * sz) 0 (fun j => f i.toNat j) (fun j c hj => ⟨(hr.hc _ row j c hrow hj).1, (hr.hc _ row j c hrow hj).2, hr.hv _ row j c hrow hj⟩)⟩
              have hi2 : i < (rows.length : Int) := by omega
              simp[*,Instr.indexAt,asIntOf,run_underlying,run_sizeOf,addr_add]
            grind
          grind
        grind
      · split at h
        · rename_i id off len sz
          split at h
          · rename_i hb
            obtain ⟨hb0, hb1, hb2, hal⟩ := hb
            simp at h; subst h
            cases hx with
            | @ref _ _ _ _ b cap n e hblk hcap hs hn =>
              simp[*,V.ptr,Instr.indexAt,asIntOf,run_underlying,run_sizeOf,addr_add]
            | refD hd => exact absurd hd (hI.alive hal)
          grind
        grind
    grind
  · rename_i len elem i hu hix
    obtain ⟨ik, rfl⟩ := hint i hix
    split at h
    · rename_i k hk
      obtain ⟨ti, hti, his⟩ := sizeA_info hk
      split at h
      · rename_i hb
        split at h
        · rename_i id off
          cases hal : Tel.alive s id with
          | false => grind
          | true =>
          simp [hal] at h; subst h
          cases hx with
          | ptrD hd => exact absurd hd (hI.alive hal)
          | @ptr _ _ b hblk =>
            simp[*,V.ptr,Instr.indexAt,Instr.sureAddr,asIntOf,run_underlying,run_sizeOf,addr_add]
        · simp at h; subst h
          cases hx with
          | gptr =>
            simp[*,V.gptr,Instr.indexAt,Instr.sureAddr,asIntOf,run_underlying,run_sizeOf,addr_add]
        · simp at h; subst h
          cases hx with
          | @eptr _ b o _ f hr =>
            refine ⟨_, ?_, V.eptr (b := b) (o := o) _ f hr⟩
            simp[*,Instr.indexAt,Instr.sureAddr,asIntOf,run_underlying,run_sizeOf,addr_add,Nat.add_assoc]
        grind
      grind
    grind
  grind
theorem fieldAddrA_sound {E : Env} {P : Program} {g : Ghost} {w : World} {s : Sto} (hI : Inv E g w s) {t : TypeId} {x v : AV} {xv : Value} {fi : Nat} (hx : V g w x xv) (h : fieldAddrA P s t x fi = some v) :
    ∃ v', (∀ w2 : World, (Instr.fieldAt t xv fi).run P w2 = .ok v' w2) ∧ V g w v v' := by
  unfold fieldAddrA at h
  split at h
  · rename_i fields hu
    split at h
    · rename_i f hf
      split at h
      · rename_i k hk
        obtain ⟨ti, hti, his⟩ := sizeA_info hk
        split at h
        · grind
        · rename_i hk0
          have hk0' : ti.size ≠ 0 := by omega
          split at h
          · rename_i id off
            cases hal : Tel.alive s id with
            | false => grind
            | true =>
            simp [hal] at h; subst h
            cases hx with
            | ptrD hd => exact absurd hd (hI.alive hal)
            | @ptr _ _ b hblk =>
              simp[*,V.ptr,Instr.fieldAt,Instr.sureAddr,fieldPlace,run_underlying,run_sizeOf,addr_add]
          · simp at h; subst h
            cases hx with
            | gptr =>
              simp[*,V.gptr,Instr.fieldAt,Instr.sureAddr,fieldPlace,run_underlying,run_sizeOf,addr_add]
          · simp at h; subst h
            cases hx with
            | @eptr _ b o _ ff hr =>
              refine ⟨_, fun w2 => ?_, V.eptr (b := b) (o := o) _ ff hr⟩
              simp[*,Instr.fieldAt,Instr.sureAddr,fieldPlace,run_underlying,run_sizeOf,addr_add,Nat.add_assoc]
          grind
      grind
    grind
  grind
theorem fieldA_sound {P : Program} {g : Ghost} {w : World} {t : TypeId} {x v : AV} {xv : Value} {fi : Nat} (hx : V g w x xv) (h : fieldA P t x fi = some v) :
    ∃ v', (Instr.field t xv fi).run P w = .ok v' w ∧ V g w v v' := by
  unfold fieldA at h
  split at h
  · rename_i fields cs hu
    split at h
    · rename_i f hf
      obtain ⟨vs, rfl, hl⟩ := hx.agg_inv
      obtain ⟨v', h1, h2⟩ := partOf_sound (P := P) hl h
      simp[*,Instr.field,run_underlying,asAgg]
    grind
  grind
theorem run_mapM_list {P : Program} {α β : Type} {w : World} (f : α → Sem β) (h : α → β) (l : List α) (hf : ∀ x ∈ l, (f x).run P w = .ok (h x) w) :
    (l.mapM f).run P w = .ok (l.map h) w := by
  induction l with
  | nil => simp
  | cons x l ih =>
    simp_all
theorem run_mapM_array {P : Program} {α β : Type} {w : World} (f : α → Sem β) (h : α → β) (l : Array α) (hf : ∀ x ∈ l.toList, (f x).run P w = .ok (h x) w) :
    (l.mapM f).run P w = .ok (l.map h) w := by
  rw [Array.mapM_eq_mapM_toList]
  simp only [Sem.run_map, run_mapM_list f h l.toList hf, Result.andThen_ok]
  congr 1
  grind
theorem buildA_sound {P : Program} {g : Ghost} {w : World} {t : TypeId} {parts : List (Nat × AV)} {ps : List (Nat × Value)} {v : AV}
    (hk : parts.map (·.1) = ps.map (·.1)) (hv : ∀ (i : Nat) p q, parts[i]? = some p → ps[i]? = some q → V g w p.2 q.2) (h : buildA P t parts = some v) :
    ∃ v', (Instr.build t ps.toArray).run P w = .ok v' w ∧ V g w v v' := by
  unfold buildA at h
  split at h
  · rename_i z fields hz hu
    split at h
    · rename_i cs hf
      split at h
      · rename_i hall
        simp at h; subst h
        obtain ⟨i, zv, hi, hzv, hrun, hzl⟩ := zeroOf_sound (g := g) (w := w) hz
        obtain ⟨vs', hfill, hvl⟩ := fill_sound parts hk hv hzl hf
        refine ⟨.agg ⟨vs'⟩, ?_, V.agg' hvl⟩
        have hmap : (fields.mapM fun f => (do pure (f.offset, ← sizeOf f.type) : Sem (Nat × Nat))).run P w = .ok (fields.map fun f => (f.offset, (sizeA P f.type).getD 0)) w := by
          apply run_mapM_array
          intro f hfm
          have := Array.all_eq_true'.1 hall f (Array.mem_toList_iff.1 hfm)
          cases hs : sizeA P f.type with
          | none => grind
          | some k =>
            obtain ⟨ti, hti, his⟩ := sizeA_info hs
            simp[*,run_sizeOf]
        have hplace : (fun i => (fields.map fun f => (f.offset, (sizeA P f.type).getD 0))[i]?) = placeF P fields := by grind[placeF]
        simp_all[Instr.build,run_underlying]
      grind
    grind
  · rename_i z n elem hz hu
    split at h
    · rename_i k hk'
      split at h
      · rename_i cs hf
        simp at h; subst h
        obtain ⟨ti, hti, his⟩ := sizeA_info hk'
        obtain ⟨i, zv, hi, hzv, hrun, hzl⟩ := zeroOf_sound (g := g) (w := w) hz
        obtain ⟨vs', hfill, hvl⟩ := fill_sound parts hk hv hzl hf
        simp[*,V.agg',Instr.build,run_underlying,run_sizeOf]
      grind
    grind
  grind
end Go.Tel
/-
  Single operations, part 6: append, what it reads and how it runs.
-/
namespace Go.Tel
theorem flatten_get {α : Type} {k : Nat} (hk : k ≠ 0) (rows : List (List α)) (h : ∀ r ∈ rows, r.length = k) : ∀ q : Nat, rows.flatten[q]? = (rows[q / k]?).bind (fun r => r[q % k]?) := by
  induction rows with
  | nil => simp
  | cons r rows ih =>
    intro q
    have hr : r.length = k := h r (by simp)
    rw [List.flatten_cons]
    rcases Nat.lt_or_ge q k with hq | hq
    · grind[Nat.div_eq_of_lt,Nat.mod_eq_of_lt]
    · rw [List.getElem?_append_right (by omega), ih (fun r hr => h r (by grind)), hr]
      have e1 : q / k = (q - k) / k + 1 := Nat.div_eq_sub_div (by omega) hq
      grind[Nat.mod_eq_sub_mod]
theorem flatten_length {α : Type} {k : Nat} (rows : List (List α)) (h : ∀ r ∈ rows, r.length = k) : rows.flatten.length = rows.length * k := by
  induction rows with
  | nil => simp
  | cons r rows ih =>
    grind
theorem Flat.vl {g : Ghost} {w : World} {rows : List (List PV)} {k : Nat} {us : List Value} (h : Flat g.I w rows k us) (hk : k ≠ 0) : VL g w (rows.flatten.map .pv) us := by
  refine ⟨by rw [List.length_map, flatten_length rows h.hsz, h.len], fun q c v h1 h2 => ?_⟩
  rw [List.getElem?_map, flatten_get hk rows h.hsz] at h1
  cases hr : rows[q / k]? with
  | none => grind
  | some row =>
    cases hj : row[q % k]? with
    | none => grind
    | some p =>
      simp [hr, hj] at h1; subst h1
      obtain ⟨u, h3, h4⟩ := h.at_ (q / k) row (q % k) p hr hj
      rw [show q / k * k + q % k = q by grind[Nat.div_add_mod]] at h3
      rw [h2] at h3; simp at h3; subst h3
      exact .pv h4
theorem all_len {rows : List (List PV)} {k : Nat} (h : (rows.all fun r => r.length == k) = true) : ∀ r ∈ rows, r.length = k := fun r hr => by grind
theorem RowsAt.flat' {I : Nat → Nat → Prop} {w : World} {rows : List (List PV)} {base : Option Addr} {b o sz k : Nat} {f : Nat → Nat → Value} (h : RowsAt I w rows base b o sz f) (hk : k ≠ 0)
    (hl : ∀ r ∈ rows, r.length = k) (cap : Nat) : ∃ us, Flat I w rows k us ∧ (∀ q u, us[q]? = some u → I b (o + q) ∧ w.cell? ⟨b, o + q, none⟩ = some u) ∧ ∀ (P : Program) (w' : World), w'.heap = w.heap → (Builtin.firstCells k rows.length (.slice base rows.length cap)).run P w' = .ok (List.toArray us) w' := by
  by_cases hne : rows = []
  · subst hne
    refine ⟨[], ⟨by simp, by simp, by simp⟩, by simp, fun P w' _ => ?_⟩
    cases base with
    | none => rfl
    | some a => simp [Builtin.firstCells, loadCells, loadCellsFrom]
  · obtain ⟨r, rs, rfl⟩ : ∃ r rs, rows = r :: rs := by cases rows with | nil => grind | cons r rs => simp
    have hsk : sz = k := by rw [← h.hsz r (by simp)]; grind
    subst hsk
    obtain ⟨us, hf, hc⟩ := h.flat hk
    refine ⟨us, hf, hc, fun P w' hw' => ?_⟩
    rw [h.hbase hne hk]
    simp only [Builtin.firstCells]
    rw [← hf.len]
    grind[loadCells_run,cell?_congr]
theorem srcCells_sound {E : Env} {g : Ghost} {w : World} {s : Sto} (hI : Inv E g w s) {y : AV} {yv : Value} {k : Nat} {cs : List AV} (hy : V g w y yv) (hk : k ≠ 0) (h : srcCells s k y = some cs) :
    ∃ n us, (Builtin.lenOf yv).run E.P w = .ok n w ∧ cs.length = n * k ∧ (∀ w', w'.heap = w.heap → (Builtin.firstCells k n yv).run E.P w' = .ok (List.toArray us) w') ∧ VL g w cs us := by
  unfold srcCells at h
  split at h
  · rename_i b
    split at h
    · rename_i hk1
      subst hk1
      simp at h; subst h
      have := hy.scv_inv; subst this
      refine ⟨b.size, b.data.toList.map fun b => .int .u8 b.toNat, by rfl, by simp, fun w' _ => ?_, ?_⟩
      · simp only [Builtin.firstCells]
        have : b.extract 0 b.size = b := by simp
        rw [this, Sem.run_pure]
        congr 1
        grind
      · refine ⟨by simp, fun i c v h1 h2 => ?_⟩
        grind[V.scv]
    grind
  · rename_i id off len sz
    split at h
    · rename_i bcs hb
      split at h
      · rename_i hc
        obtain ⟨hc1, hc2, hal⟩ := hc
        subst hc2
        simp at h; subst h
        cases hy with
        | refD hd => exact absurd hd (hI.alive hal)
        | @ref _ _ _ _ b cap n e hblk hcap hs hn =>
          obtain ⟨cs', vs, e', k1, k2, kle, k3⟩ := hI.blk id b hblk
          rw [hb] at k1; simp at k1; subst k1
          have hvl := (k3.drop off).take (len * sz)
          refine ⟨len, _, by rfl, by grind, fun w' hw' => ?_, hvl⟩
          simp only [Builtin.firstCells]
          have hlen : (((vs.take bcs.length).drop off).take (len * sz)).length = len * sz := by grind
          grind[loadCells_run,cell_of_heap]
      grind
    grind
  · split at h
    · rename_i rows hrows
      split at h
      · rename_i hall
        simp only [Option.some.injEq] at h; subst h
        have hl := all_len hall
        obtain ⟨base, cap, b, o, sz, f, rfl, hcap, hr⟩ := rowsOf_sound hy hrows
        obtain ⟨us, hf, _, hrun⟩ := hr.flat' hk hl cap
        exact ⟨rows.length, us, by rfl, by grind[flatten_length], fun w' hw' => hrun E.P w' hw', hf.vl hk⟩
      grind
    grind
theorem run_append_room {P : Program} {w : World} {t u elem : TypeId} {d : TypeDesc} {i : TypeInfo} {base : Option Addr} {sLen sCap n : Nat} {x : Value} {us : List Value} (T : TypeId) (ts : List TypeId)
    (ht : P.underlying t = some (.slice elem)) (hi : P.info? elem = some i) (hu : P.underlying u = some d) (hd : ∀ k, d ≠ .int k)
    (hn : (Builtin.lenOf x).run P w = .ok n w) (hf : (Builtin.firstCells i.size n x).run P w = .ok (List.toArray us) w) (hroom : sLen + n ≤ sCap) :
    (Builtin.append_ (List.toArray (t :: u :: ts)) T #[.slice base sLen sCap, x]).run P w =
      match base with
      | none => .ok (.slice base (sLen + n) sCap) w
      | some a => ((storeCells (a.add (sLen * i.size)) us).run P w).andThen fun _ w' => .ok (.slice base (sLen + n) sCap) w' := by
  simp only [Builtin.append_]
  simp [run_underlying ht, run_sizeOf hi, run_underlying hu, hn, hroom, hf]
  cases base <;> simp
theorem growBy_le (newLen : Nat) : ∀ (r c : Nat), Builtin.growBy newLen r c ≤ max c (newLen + (newLen + 768) / 4) := by
  intro r
  induction r with
  | zero => grind[Builtin.growBy]
  | succ r ih =>
    grind[Builtin.growBy]
theorem nextslicecap_le (need cap : Nat) (h : cap < need) : Builtin.nextslicecap need cap ≤ 3 * need := by grind[Builtin.nextslicecap,growBy_le]
def drewW (w : World) : World := { w with drawn := w.drawn + 1 }
theorem run_append_grow {P : Program} {w : World} {t u elem : TypeId} {d : TypeDesc} {i : TypeInfo} {base : Option Addr} {sLen sCap n : Nat} {x zv : Value} {us os : List Value} (T : TypeId) (ts : List TypeId)
    (ht : P.underlying t = some (.slice elem)) (hi : P.info? elem = some i) (hu : P.underlying u = some d) (hd : ∀ k, d ≠ .int k)
    (hn : (Builtin.lenOf x).run P w = .ok n w) (hf : (Builtin.firstCells i.size n x).run P (drewW w) = .ok (List.toArray us) (drewW w))
    (ho : (Builtin.firstCells i.size sLen (.slice base sLen sCap)).run P (drewW w) = .ok (List.toArray os) (drewW w)) (hz : i.zero = some zv)
    (hroom : sCap < sLen + n) (hb1 : (sLen + n) * i.bytes ≤ 2 ^ 45) (hb2 : sLen + n ≤ 2 ^ 45) :
    ∃ cap rest, sLen + n ≤ cap ∧ rest.length = (cap - (sLen + n)) * zv.cells.size ∧
      (Builtin.append_ (List.toArray (t :: u :: ts)) T #[.slice base sLen sCap, x]).run P w = .ok (.slice (some ⟨w.heap.size, 0, none⟩) (sLen + n) cap) (pushW (drewW w) (os ++ us ++ rest) elem) := by
  have hcap : ¬ (2 ^ 48 < Builtin.nextslicecap (sLen + n) sCap * i.bytes) := by
    have := nextslicecap_le (sLen + n) sCap hroom
    have := Nat.mul_le_mul_right i.bytes this
    grind
  have hi64 : ¬ (IntKind.i64.max < ((sLen : Int) + (n : Int))) := by
    have : IntKind.i64.max = 9223372036854775807 := rfl
    omega
  have hzero : (zeroValue elem).run P (drewW w) = .ok zv (drewW w) := by simp[*,zeroValue,run_typeInfo]
  refine ⟨(sLen + n) + w.tape w.drawn (.appendCap (sLen + n) sCap elem) % (2 ^ 63 - (sLen + n)), (Builtin.zeroCells zv.cells ((sLen + n) + w.tape w.drawn (.appendCap (sLen + n) sCap elem) % (2 ^ 63 - (sLen + n)) - (sLen + n))).toList, Nat.le_add_right _ _, ?_, ?_⟩
  · simp [Builtin.zeroCells]
  · simp only [Builtin.append_]
    simp [run_underlying ht, run_sizeOf hi, run_underlying hu, hn, run_typeInfo hi, Question.forced, Question.cut]
    rw [if_neg (by omega), if_neg (by omega), if_neg hcap]
    have hf' := hf
    have ho' := ho
    have hzero' := hzero
    unfold drewW at hf' ho' hzero'
    simp [ho', hf', hzero', newRow, pushW, drewW]
    congr 2
    simp
end Go.Tel
/-
  Single operations, part 7: append, what becomes of the relation.
-/
namespace Go.Tel
theorem Inv.drew {E : Env} {L : Lim} {g : Ghost} {w : World} {s : Sto} (h : Inv E g w s) : Ext L g w g (drewW w) ∧ Inv E g (drewW w) s := by
  have ext : Ext L g w g (drewW w) :=
    ⟨rfl, rfl, rfl, Nat.le_refl _, fun _ _ h => h, fun _ _ _ => rfl, fun _ _ h => .inl h, fun _ h => h, fun _ _ _ _ => rfl, fun _ l h => ⟨l, h, .inl rfl⟩, fun _ _ h _ => ⟨h, rfl⟩,
      fun _ _ h _ => ⟨h, rfl, fun _ h => h⟩, fun _ _ _ _ _ => ⟨rfl, fun _ h => h⟩, fun _ _ h => h, fun _ _ _ => ⟨fun _ => rfl, fun _ h => h⟩, fun id _ h _ => ⟨id, h⟩, fun id _ h _ => ⟨id, h⟩, fun _ l h _ => ⟨l, h, rfl⟩, fun _ h => h⟩
  refine ⟨ext, ?_⟩
  exact { h with
    blk := fun id b hb => by
      obtain ⟨cs, vs, e, h1, h2, h3, h4⟩ := h.blk id b hb
      exact ⟨cs, vs, e, h1, h2, h3, h4.mono ext⟩
    glob := fun gl row hr j c hj => by
      obtain ⟨v, h1, h2, h3⟩ := h.glob gl row hr j c hj
      exact ⟨v, h1, h2, h3.mono ext.mono ext.cell⟩
    globN := fun gl row hr => by
      obtain ⟨h1, h2⟩ := h.globN gl row hr
      exact ⟨h1, h2⟩ }
def Ghost.setT (g : Ghost) (t : Nat) (l : TokLoc) : Ghost :=
  { g with tok := fun k => if k = t then some l else g.tok k, I := fun b o => g.I b o ∨ (b = l.b ∧ o < l.n * l.sz) }
theorem Inv.pushT {E : Env} {L : Lim} {g : Ghost} {w : World} {s : Sto} (h : Inv E g w s) {t cap sz n : Nat} {vs : List Value} {e : TypeId} {ts' : List (Nat × Nat)}
    (hv : vs.length = cap * sz) (hn : n ≤ cap) (hsz : sz ≠ 0) (hse : sizeA E.P e = some sz)
    (ht : (t = s.ts.length ∧ ts' = s.ts ++ [(n, e)]) ∨ (∃ l, g.tok t = some l ∧ l.n < n ∧ L.rt ≤ t ∧ ts' = s.ts.set t (n, e))) :
    Ext L g w (g.setT t ⟨w.heap.size, cap, sz, n, e⟩) (pushW w vs e) ∧ Inv E (g.setT t ⟨w.heap.size, cap, sz, n, e⟩) (pushW w vs e) { s with ts := ts' } := by
  have hs : (pushW w vs e).heap.size = w.heap.size + 1 := by simp [pushW]
  have hnone : ∀ k l, g.tok k = some l → k < s.ts.length := fun k l hl => lt_of_getElem?L (h.tokL k l hl)
  have hother : ∀ k, k ≠ t → (g.setT t ⟨w.heap.size, cap, sz, n, e⟩).tok k = g.tok k := fun k hk => by grind[Ghost.setT]
  have hself : (g.setT t ⟨w.heap.size, cap, sz, n, e⟩).tok t = some ⟨w.heap.size, cap, sz, n, e⟩ := by simp [Ghost.setT]
  have hts : ∀ k, k ≠ t → ts'[k]? = s.ts[k]? ∨ (k ≥ s.ts.length ∧ ts'[k]? = none) := by grind
  have htt : ts'[t]? = some (n, e) := by grind
  have inv : ∀ k l, (g.setT t ⟨w.heap.size, cap, sz, n, e⟩).tok k = some l → (k = t ∧ l = ⟨w.heap.size, cap, sz, n, e⟩) ∨ (k ≠ t ∧ g.tok k = some l) := fun k l hl => by grind
  have ext : Ext L g w (g.setT t ⟨w.heap.size, cap, sz, n, e⟩) (pushW w vs e) := {
    os := rfl, tape := rfl, output := rfl, size := by omega
    mono := fun _ _ hi => .inl hi
    cell := fun k o hi => cell?_congr (heap_pushW_lt (h.Ilt k o hi)) o
    blk := fun _ _ hb => .inl hb
    dead := fun _ hd => hd
    shape := fun id b hb _ => shape_congr (heap_pushW_lt (h.blkLt hb))
    tok := fun k l hl => by grind
    keepB := fun id b hb _ => ⟨hb, heap_pushW_lt (h.blkLt hb)⟩
    keepT := fun k l hl hlt => by
      have hk : k ≠ t := fun e => by grind
      exact ⟨by grind, heap_pushW_lt (h.tokLt hl), fun o ho => ho.resolve_right (fun e => by have := h.tokLt hl; grind)⟩
    out := fun k hk _ _ _ => ⟨heap_pushW_lt hk, fun o ho => ho.resolve_right (fun e => by grind)⟩
    mp := fun _ _ hb => hb
    keepM := fun _ b' hb' => ⟨fun _ => heap_pushW_lt (h.mpLt hb'), fun o ho => ho.resolve_right (fun e => by have := h.mpLt hb'; grind)⟩
    newM := fun id' _ hb _ => ⟨id', hb⟩
    newB := fun id _ hb _ => ⟨id, hb⟩
    pend := fun _ h => h
    newT := fun k l hl hlt => by grind }
  refine ⟨ext, ?_⟩
  exact {
    blkN := h.blkN
    deadN := h.deadN
    deadE := h.deadE
    blk := fun id b hb => by
      obtain ⟨cs', us, e', h1, h2, h3, h4⟩ := h.blk id b hb
      exact ⟨cs', us, e', h1, by grind[heap_pushW_lt], h3, h4.mono ext⟩
    blkI := fun id b o hb hi => by
      rcases hi with hi | hi
      · exact h.blkI id b o hb hi
      · have := h.blkLt hb; grind
    tokN := fun k m q hk => by
      by_cases e : k = t
      · grind
      · rw [hother k e]
        rcases hts k e with x | ⟨_, x⟩
        · rw [x] at hk; exact h.tokN k m q hk
        grind
    tokL := fun k l hl => by
      rcases inv k l hl with ⟨rfl, rfl⟩ | ⟨hk, hl⟩
      · omega
      · rcases hts k hk with x | ⟨x, _⟩
        · rw [x]; exact h.tokL k l hl
        grind
    tok := fun k l hl => by
      rcases inv k l hl with ⟨_, rfl⟩ | ⟨_, hl⟩
      · grind[heap_pushW]
      · obtain ⟨us, e', h1, h2⟩ := h.tok k l hl
        grind[heap_pushW_lt]
    tokI := fun k l o hl hle hi => by
      rcases inv k l hl with ⟨_, rfl⟩ | ⟨_, hl⟩
      · rcases hi with hi | hi
        · have := h.Ilt _ o hi; grind
        omega
      · rcases hi with hi | hi
        · exact h.tokI k l o hl hle hi
        · have := h.tokLt hl; grind
    injB := h.injB
    injT := fun k k' l l' hl hl' he => by
      rcases inv k l hl with ⟨e1, rfl⟩ | ⟨_, hl⟩
      · rcases inv k' l' hl' with ⟨e2, _⟩ | ⟨_, hl'⟩
        · rw [e1, e2]
        · have := h.tokLt hl'; grind
      · rcases inv k' l' hl' with ⟨_, rfl⟩ | ⟨_, hl'⟩
        · have := h.tokLt hl; grind
        · exact h.injT k k' l l' hl hl' he
    injBT := fun id b k l hb hl => by
      rcases inv k l hl with ⟨_, rfl⟩ | ⟨_, hl⟩
      · have := h.blkLt hb; grind
      · exact h.injBT id b k l hb hl
    Ilt := fun k o hi => by
      rw [hs]
      rcases hi with hi | hi
      · have := h.Ilt k o hi; omega
      grind
    allB := h.allB
    mp := h.mpKeep (fun _ _ _ => rfl) (fun _ _ hb' => heap_pushW_lt (h.mpLt hb'))
    mpX := h.mpX
    injM := h.injM
    pendN := h.pendN
    glob := fun gl row hr j c hj => by
      obtain ⟨v, h1, h2, h3⟩ := h.glob gl row hr j c hj
      exact ⟨v, .inl h1, by rw [ext.cell _ _ h1]; omega, h3.mono ext.mono ext.cell⟩
    globN := fun gl row hr => by
      obtain ⟨h1, h2⟩ := h.globN gl row hr
      exact ⟨.inl h1, by rw [ext.cell _ _ h1]; omega⟩ }
theorem setV_get (us : List Value) : ∀ (vs : List Value) (k q : Nat), (q < k ∨ k + us.length ≤ q) → (setV vs k us)[q]? = vs[q]? := by
  induction us with
  | nil => intro vs k q _; rfl
  | cons u us ih =>
    grind[setV]
theorem setV_get_in (us : List Value) : ∀ (vs : List Value) (k q : Nat) (u : Value), us[q]? = some u → k + us.length ≤ vs.length → (setV vs k us)[k + q]? = some u := by
  induction us with
  | nil => simp
  | cons x us ih =>
    intro vs k q u h hle
    simp only [List.length_cons] at hle
    cases q with
    | zero =>
      grind[setV,setV_get]
    | succ q =>
      simp at h
      rw [setV, show k + (q + 1) = k + 1 + q by omega]
      exact ih _ _ _ _ h (by grind)
theorem Inv.growT {E : Env} {L : Lim} {g : Ghost} {w : World} {s : Sto} (h : Inv E g w s) {t n : Nat} {l : TokLoc} {vs us : List Value} {fz : Nat × Nat} (hl : g.tok t = some l)
    (hh : w.heap[l.b]? = some (.cells ⟨vs⟩ l.e fz)) (hlt : l.n < n) (hle : n ≤ l.cap) (hrt : L.rt ≤ t) :
    Ext L g w (g.setT t { l with n := n }) (putRowB w l.b (setV vs (l.n * l.sz) us) l.e fz) ∧ Inv E (g.setT t { l with n := n }) (putRowB w l.b (setV vs (l.n * l.sz) us) l.e fz) { s with ts := s.ts.set t (n, l.e) } := by
  have hb := h.tokLt hl
  have hne : ∀ k, k ≠ l.b → (putRowB w l.b (setV vs (l.n * l.sz) us) l.e fz).heap[k]? = w.heap[k]? := fun k hk => by grind[heap_putRowB]
  have hat : (putRowB w l.b (setV vs (l.n * l.sz) us) l.e fz).heap[l.b]? = some (.cells ⟨setV vs (l.n * l.sz) us⟩ l.e fz) := by grind[heap_putRowB]
  have hs : (putRowB w l.b (setV vs (l.n * l.sz) us) l.e fz).heap.size = w.heap.size := by simp [putRowB]
  obtain ⟨vs0, fz0, hh0, hlen, hn0, hsz, hfz0, hse⟩ := h.tok t l hl
  have hvs : vs0 = vs ∧ fz0 = fz := by grind
  rw [hvs.1] at hlen
  rw [hvs.2] at hfz0
  have hnt : t < s.ts.length := lt_of_getElem?L (h.tokL t l hl)
  have hother : ∀ k, k ≠ t → (g.setT t { l with n := n }).tok k = g.tok k := fun k hk => by grind[Ghost.setT]
  have hself : (g.setT t { l with n := n }).tok t = some { l with n := n } := by simp [Ghost.setT]
  have inv : ∀ k l', (g.setT t { l with n := n }).tok k = some l' → (k = t ∧ l' = { l with n := n }) ∨ (k ≠ t ∧ g.tok k = some l') := fun k l' hl' => by grind
  have hcellI : ∀ b o, g.I b o → (putRowB w l.b (setV vs (l.n * l.sz) us) l.e fz).cell? ⟨b, o, none⟩ = w.cell? ⟨b, o, none⟩ := fun b o hi => by
    by_cases hk : b = l.b
    · subst hk
      have : o < l.n * l.sz := by
        rcases Nat.lt_or_ge o (l.n * l.sz) with x | x
        · exact x
        · exact absurd hi (h.tokI t l o hl x)
      rw [cell_of_heap hat, cell_of_heap hh, setV_get us vs _ _ (.inl this)]
    grind[cell?_congr]
  have ext : Ext L g w (g.setT t { l with n := n }) (putRowB w l.b (setV vs (l.n * l.sz) us) l.e fz) := {
    os := rfl, tape := rfl, output := rfl, size := by omega
    mono := fun _ _ hi => .inl hi
    cell := hcellI
    blk := fun _ _ hb => .inl hb
    dead := fun _ hd => hd
    shape := fun id b hb _ => shape_congr (hne b (h.injBT id b t l hb hl))
    tok := fun k l' hl' => by grind
    keepB := fun id b hb _ => ⟨hb, hne b (h.injBT id b t l hb hl)⟩
    keepT := fun k l' hl' hk' => by
      have hk : k ≠ t := fun e => by omega
      have hbb : l'.b ≠ l.b := fun e => hk (h.injT k t l' l hl' hl e)
      exact ⟨by grind, hne _ hbb, fun o ho => ho.resolve_right (fun e => hbb e.1)⟩
    out := fun k hk _ h2 _ => ⟨hne k (fun e => h2 t l hl e.symm), fun o ho => ho.resolve_right (fun e => h2 t l hl e.1.symm)⟩
    mp := fun _ _ hb => hb
    keepM := fun _ b' hb' => ⟨fun _ => hne b' (h.mpT hb' hl), fun o ho => ho.resolve_right (fun e => h.mpT hb' hl e.1)⟩
    newM := fun id' _ hb _ => ⟨id', hb⟩
    newB := fun id _ hb _ => ⟨id, hb⟩
    pend := fun _ h => h
    newT := fun k l' hl' _ => by grind }
  refine ⟨ext, ?_⟩
  exact {
    blkN := h.blkN
    deadN := h.deadN
    deadE := h.deadE
    blk := fun id b hb => by
      obtain ⟨cs', us', e', h1, h2, h3, h4⟩ := h.blk id b hb
      exact ⟨cs', us', e', h1, by rw [hne b (h.injBT id b t l hb hl)]; omega, h3, h4.mono ext⟩
    blkI := fun id b o hb hi => by
      rcases hi with hi | hi
      · exact h.blkI id b o hb hi
      · exact h.injBT id b t l hb hl hi.1
    tokN := fun k m q hk => by
      by_cases e : k = t
      · grind
      · rw [hother k e]; simp only [List.getElem?_set_ne (Ne.symm e)] at hk; exact h.tokN k m q hk
    tokL := fun k l' hl' => by
      rcases inv k l' hl' with ⟨rfl, rfl⟩ | ⟨hk, hl'⟩
      · grind
      · simp only [List.getElem?_set_ne (Ne.symm hk)]; exact h.tokL k l' hl'
    tok := fun k l' hl' => by
      rcases inv k l' hl' with ⟨_, rfl⟩ | ⟨hk, hl'⟩
      · exact ⟨_, fz, hat, by grind[setV_length], hle, hsz, Nat.le_trans hfz0 (Nat.mul_le_mul_right _ (Nat.le_of_lt hlt)), hse⟩
      · obtain ⟨us', e', h1, h2⟩ := h.tok k l' hl'
        exact ⟨us', e', by rw [hne _ (fun e => hk (h.injT k t l' l hl' hl e))]; omega, h2⟩
    tokI := fun k l' o hl' hle' hi => by
      rcases inv k l' hl' with ⟨_, rfl⟩ | ⟨hk, hl'⟩
      · rcases hi with hi | hi
        · exact h.tokI t l o hl (by simp only at hle'; have := Nat.mul_le_mul_right l.sz (Nat.le_of_lt hlt); omega) hi
        omega
      · rcases hi with hi | hi
        · exact h.tokI k l' o hl' hle' hi
        · exact hk (h.injT k t l' l hl' hl hi.1)
    injB := h.injB
    injT := fun k k' l1 l2 h1 h2 he => by
      rcases inv k l1 h1 with ⟨e1, rfl⟩ | ⟨_, h1⟩
      · rcases inv k' l2 h2 with ⟨e2, _⟩ | ⟨_, h2⟩
        · rw [e1, e2]
        · rw [e1]; exact h.injT t k' l l2 hl h2 he
      · rcases inv k' l2 h2 with ⟨e2, rfl⟩ | ⟨_, h2⟩
        · rw [e2]; exact h.injT k t l1 l h1 hl he
        · exact h.injT k k' l1 l2 h1 h2 he
    injBT := fun id b k l' hb hl' => by
      rcases inv k l' hl' with ⟨_, rfl⟩ | ⟨_, hl'⟩
      · exact h.injBT id b t l hb hl
      · exact h.injBT id b k l' hb hl'
    Ilt := fun k o hi => by
      rw [hs]
      rcases hi with hi | hi
      · exact h.Ilt k o hi
      grind
    allB := h.allB
    mp := h.mpKeep (fun _ _ _ => rfl) (fun _ b' hb' => hne b' (h.mpT hb' hl))
    mpX := h.mpX
    injM := h.injM
    pendN := h.pendN
    glob := fun gl row hr j c hj => by
      obtain ⟨v, h1, h2, h3⟩ := h.glob gl row hr j c hj
      exact ⟨v, .inl h1, by grind, h3.mono ext.mono ext.cell⟩
    globN := fun gl row hr => by
      obtain ⟨h1, h2⟩ := h.globN gl row hr
      exact ⟨.inl h1, by grind⟩ }
end Go.Tel
/-
  Single operations, part 8: blocks that grow; append.
-/
namespace Go.Tel
def Ghost.kill (g : Ghost) (id : Nat) : Ghost :=
  { g with blk := fun i => if i = id then none else g.blk i, dead := fun i => g.dead i ∨ i = id,
           hd := fun i (hi : g.dead i ∨ i = id) => (if e : i = id then if_pos e else (if_neg e).trans (g.hd i (hi.resolve_right e)) : (if i = id then none else g.blk i) = none) }
theorem Inv.kill {E : Env} {L : Lim} {g : Ghost} {w : World} {s : Sto} (h : Inv E g w s) {id b : Nat} (hb : g.blk id = some b) (hro : L.ro ≤ id) :
    Ext L g w (g.kill id) w ∧ Inv E (g.kill id) w { s with bs := s.bs.set id [] } := by
  have inv : ∀ i b', (g.kill id).blk i = some b' → i ≠ id ∧ g.blk i = some b' := fun i b' hi => by grind[Ghost.kill]
  have ext : Ext L g w (g.kill id) w := {
    os := rfl, tape := rfl, output := rfl, size := Nat.le_refl _
    mono := fun _ _ hi => hi
    cell := fun _ _ _ => rfl
    blk := fun i b' hi => by grind[Ghost.kill]
    dead := fun _ hd => .inl hd
    shape := fun _ _ _ _ => rfl
    tok := fun _ l hl => ⟨l, hl, .inl rfl⟩
    keepB := fun i b' hi hlt => ⟨by grind[Ghost.kill], rfl⟩
    keepT := fun _ _ hl _ => ⟨hl, rfl, fun _ ho => ho⟩
    out := fun _ _ _ _ _ => ⟨rfl, fun _ ho => ho⟩
    mp := fun _ _ hb => hb
    keepM := fun _ _ _ => ⟨fun _ => rfl, fun _ ho => ho⟩
    newM := fun id' _ hb _ => ⟨id', hb⟩
    newB := fun i b' hi _ => ⟨i, (inv i b' hi).2⟩
    pend := fun _ h => h
    newT := fun _ l hl _ => ⟨l, hl, rfl⟩ }
  refine ⟨ext, ?_⟩
  exact {
    blkN := fun i b' hi => by simpa using h.blkN i b' (inv i b' hi).2
    deadN := fun i hd => by
      rcases hd with hd | rfl
      · simpa using h.deadN i hd
      · simpa using h.blkN _ b hb
    deadE := fun i hd => by
      by_cases e : i = id
      · subst e; simp [h.blkN _ b hb]
      · rcases hd with hd | hd
        · simp only [List.getElem?_set_ne (Ne.symm e)]; exact h.deadE i hd
        omega
    blk := fun i b' hi => by
      obtain ⟨e, hi⟩ := inv i b' hi
      obtain ⟨cs, vs, e', h1, h2, h3, h4⟩ := h.blk i b' hi
      exact ⟨cs, vs, e', by grind, h2, h3, h4.mono ext⟩
    blkI := fun i b' o hi => h.blkI i b' o (inv i b' hi).2
    tokN := h.tokN
    tokL := h.tokL
    tok := h.tok
    tokI := h.tokI
    injB := fun i j b' hi hj => h.injB i j b' (inv i b' hi).2 (inv j b' hj).2
    injT := h.injT
    injBT := fun i b' t l hi hl => h.injBT i b' t l (inv i b' hi).2 hl
    Ilt := h.Ilt
    allB := fun i hi => by
      by_cases e : i = id
      · exact .inr (.inl (.inr e))
      · rcases h.allB i (by grind) with ⟨b', hb'⟩ | q | q
        · exact .inl ⟨b', (if_neg e).trans hb'⟩
        · exact .inr (.inl (.inl q))
        · exact .inr (.inr q)
    mp := h.mpKeep (fun _ _ hb' => List.getElem?_set_ne (h.mpNe hb hb')) (fun _ _ _ => rfl)
    mpX := fun i b' hb' => by
      obtain ⟨a1, a2, a3⟩ := h.mpX i b' hb'
      have hne : i ≠ id := Ne.symm (h.mpNe hb hb')
      exact ⟨(if_neg hne).trans a1, fun hd => hd.elim a2 hne, a3⟩
    injM := h.injM
    pendN := fun i hp => by
      obtain ⟨a, b, c⟩ := h.pendN i hp
      have hne : i ≠ id := fun e => by grind
      exact ⟨by grind, (if_neg hne).trans b, fun hd => hd.elim c hne⟩
    glob := fun gl row hr j c hj => by
      obtain ⟨v, h1, h2, h3⟩ := h.glob gl row hr j c hj
      exact ⟨v, h1, h2, h3.mono ext.mono ext.cell⟩
    globN := fun gl row hr => by
      obtain ⟨h1, h2⟩ := h.globN gl row hr
      exact ⟨h1, h2⟩ }
theorem Inv.kfresh {E : Env} {g : Ghost} {w : World} {s : Sto} (h : Inv E g w s) {id b : Nat} (hb : g.blk id = some b) : ¬ (g.kill id).dead s.bs.length := fun hd => by
  rcases hd with hd | hd
  · have := h.deadN _ hd; omega
  · have := h.blkN id b hb; omega
theorem Inv.growB {E : Env} {L : Lim} {g : Ghost} {w : World} {s : Sto} (h : Inv E g w s) {id b : Nat} {cs' : List AV} {vs vs' : List Value} {e : TypeId}
    (hb : g.blk id = some b) (hh : w.heap[b]? = some (.cells ⟨vs⟩ e (0, 0))) (hvl : vs'.length = vs.length) (hro : L.ro ≤ id) (hle : cs'.length ≤ vs'.length) (hl : VL g w cs' (vs'.take cs'.length)) :
    Ext L g w ((g.kill id).addB s.bs.length b (h.kfresh hb)) (putRowB w b vs' e) ∧ Inv E ((g.kill id).addB s.bs.length b (h.kfresh hb)) (putRowB w b vs' e) { s with bs := s.bs.set id [] ++ [cs'] } := by
  have hlt := h.blkLt hb
  have hidl := h.blkN id b hb
  have hne : ∀ k, k ≠ b → (putRowB w b vs' e).heap[k]? = w.heap[k]? := fun k hk => by grind[heap_putRowB]
  have hat : (putRowB w b vs' e).heap[b]? = some (.cells ⟨vs'⟩ e (0, 0)) := by grind[heap_putRowB]
  have hsz : (putRowB w b vs' e).heap.size = w.heap.size := by simp [putRowB]
  have inv : ∀ i b', ((g.kill id).addB s.bs.length b (h.kfresh hb)).blk i = some b' → (i = s.bs.length ∧ b' = b) ∨ (i ≠ id ∧ i ≠ s.bs.length ∧ g.blk i = some b') := fun i b' hi => by
    simp only [Ghost.addB, Ghost.kill] at hi
    grind
  have keep : ∀ i b', g.blk i = some b' → i ≠ id → ((g.kill id).addB s.bs.length b (h.kfresh hb)).blk i = some b' := fun i b' hi e => by
    have := h.blkN i b' hi
    have e2 : i ≠ s.bs.length := by omega
    simp[*,Ghost.addB,Ghost.kill]
  have ext : Ext L g w ((g.kill id).addB s.bs.length b (h.kfresh hb)) (putRowB w b vs' e) := {
    os := rfl, tape := rfl, output := rfl, size := by omega
    mono := fun _ _ hi => hi
    cell := fun k o hi => cell?_congr (hne k (fun hk => h.blkI id b o hb (hk ▸ hi))) o
    blk := fun i b' hi => by
      by_cases e : i = id
      · exact .inr (.inr e)
      grind
    dead := fun _ hd => .inl hd
    shape := fun i b' hi hi' => by
      by_cases hk : b' = b
      · subst hk; rw [shape_of_heap hat, shape_of_heap hh, hvl]
      grind[shape_congr]
    tok := fun _ l hl => ⟨l, hl, .inl rfl⟩
    keepB := fun i b' hi hlt' => by
      have e : i ≠ id := by omega
      exact ⟨keep i b' hi e, hne b' (fun hk => e (h.injB i id b' hi (hk ▸ hb)))⟩
    keepT := fun t l hl _ => ⟨hl, hne _ (fun hk => h.injBT id b t l hb hl hk.symm), fun _ ho => ho⟩
    out := fun k _ h1 _ _ => ⟨hne k (fun hk => h1 id (hk ▸ hb)), fun _ ho => ho⟩
    mp := fun _ _ hb => hb
    keepM := fun _ b' hb' => ⟨fun _ => hne b' (fun hk => h.mpB hb' (hk ▸ hb)), fun _ ho => ho⟩
    newM := fun id' _ hb _ => ⟨id', hb⟩
    newB := fun i b' hi _ => by grind
    pend := fun _ h => h
    newT := fun _ l hl _ => ⟨l, hl, rfl⟩ }
  refine ⟨ext, ?_⟩
  exact {
    blkN := fun i b' hi => by
      rcases inv i b' hi with ⟨rfl, _⟩ | ⟨_, _, hi⟩
      · simp
      · have := h.blkN i b' hi; grind
    deadN := fun i hd => by
      rcases hd with hd | rfl
      · have := h.deadN i hd; grind
      grind
    deadE := fun i hd => by
      have hlt : i < s.bs.length := by
        rcases hd with hd | rfl
        · exact h.deadN i hd
        omega
      rw [List.getElem?_append_left (by grind)]
      by_cases e : i = id
      · grind
      · rcases hd with hd | hd
        · simp only [List.getElem?_set_ne (Ne.symm e)]; exact h.deadE i hd
        omega
    blk := fun i b' hi => by
      rcases inv i b' hi with ⟨rfl, rfl⟩ | ⟨e1, _, hi⟩
      · exact ⟨cs', vs', e, by simp, hat, hle, hl.mono ext⟩
      · obtain ⟨cs, us, e', h1, h2, h3, h4⟩ := h.blk i b' hi
        exact ⟨cs, us, e', by grind,
          by rw [hne b' (fun hk => e1 (h.injB i id b' hi (hk ▸ hb)))]; omega, h3, h4.mono ext⟩
    blkI := fun i b' o hi => by
      rcases inv i b' hi with ⟨_, rfl⟩ | ⟨_, _, hi⟩
      · exact h.blkI id _ o hb
      · exact h.blkI i b' o hi
    tokN := h.tokN
    tokL := h.tokL
    tok := fun t l hl => by
      obtain ⟨us, e', h1, h2⟩ := h.tok t l hl
      grind
    tokI := h.tokI
    injB := fun i j b' hi hj => by
      rcases inv i b' hi with ⟨e1, e2⟩ | ⟨e1, e2, hi⟩
      · rcases inv j b' hj with ⟨e3, _⟩ | ⟨e3, e4, hj'⟩
        · rw [e1, e3]
        · exact absurd (h.injB j id b' hj' (by rw [hb, e2])) e3
      · rcases inv j b' hj with ⟨e3, e4⟩ | ⟨e3, e4, hj'⟩
        · exact absurd (h.injB i id b' hi (by rw [hb, e4])) e1
        · exact h.injB i j b' hi hj'
    injT := h.injT
    injBT := fun i b' t l hi hl => by
      rcases inv i b' hi with ⟨_, rfl⟩ | ⟨_, _, hi⟩
      · exact h.injBT id _ t l hb hl
      · exact h.injBT i b' t l hi hl
    Ilt := fun k o hi => by rw [hsz]; exact h.Ilt k o hi
    allB := fun i hi => by
      by_cases e : i = s.bs.length
      · exact .inl ⟨_, if_pos e⟩
      by_cases e2 : i = id
      · exact .inr (.inl (.inr e2))
      · rcases h.allB i (by grind) with ⟨b', hb'⟩ | q | q
        · grind
        · exact .inr (.inl (.inl q))
        · exact .inr (.inr q)
    mp := h.mpKeep (fun i b' hb' => by
        have hlt := h.mpN hb'
        rw [List.getElem?_append_left (by grind)]
        exact List.getElem?_set_ne (h.mpNe hb hb')) (fun _ b' hb' => hne b' (fun hk => h.mpB hb' (hk ▸ hb)))
    mpX := fun i b' hb' => by
      obtain ⟨a1, a2, a3⟩ := h.mpX i b' hb'
      have hne : i ≠ id := Ne.symm (h.mpNe hb hb')
      have hlt := h.mpN hb'
      exact ⟨(if_neg (Nat.ne_of_lt hlt)).trans ((if_neg hne).trans a1), fun hd => hd.elim a2 hne, a3⟩
    injM := h.injM
    pendN := fun i hp => by
      obtain ⟨a, b, c⟩ := h.pendN i hp
      have hne : i ≠ id := fun e => by grind
      exact ⟨by grind, (if_neg (by omega)).trans ((if_neg hne).trans b), fun hd => hd.elim c hne⟩
    glob := fun gl row hr j c hj => by
      obtain ⟨v, h1, h2, h3⟩ := h.glob gl row hr j c hj
      exact ⟨v, h1, by rw [ext.cell _ _ h1]; omega, h3.mono ext.mono ext.cell⟩
    globN := fun gl row hr => by
      obtain ⟨h1, h2⟩ := h.globN gl row hr
      exact ⟨h1, by rw [ext.cell _ _ h1]; omega⟩ }
theorem Flat.resz {I : Nat → Nat → Prop} {w : World} {rows : List (List PV)} {k k' : Nat} {us : List Value} (e : k = k') (h : Flat I w rows k us) : Flat I w rows k' us := by grind
theorem own_of_flat {g : Ghost} {w : World} {t n cap sz : Nat} {b : Nat} {e : TypeId} {rows : List (List PV)} {us : List Value} (hg : g.tok t = some ⟨b, cap, sz, n, e⟩) (hf : Flat g.I w rows sz us)
    (hn : rows.length = n) (hc : n ≤ cap) (hI : ∀ o, o < n * sz → g.I b o) (hh : ∀ q u, us[q]? = some u → w.cell? ⟨b, q, none⟩ = some u) :
    V g w (.own t rows) (.slice (some ⟨b, 0, none⟩) rows.length cap) := by
  have hra := hf.rowsAt (b := b) (o := 0) (fun q hq => by rw [Nat.zero_add]; exact hI q (by rw [← hn, ← hf.len]; omega)) (fun q u hq => by grind)
  exact .own hra (by omega) hg (by grind) (fun _ => ⟨rfl, rfl, rfl, rfl, rfl⟩)
theorem setV_take_append (us vs : List Value) (k : Nat) (h : k + us.length ≤ vs.length) : (setV vs k us).take (k + us.length) = vs.take k ++ us := by
  apply List.ext_getElem?
  intro q
  rw [List.getElem?_take]
  split
  · rename_i hq
    rcases Nat.lt_or_ge q k with x | x
    · grind[setV_get]
    · obtain ⟨j, rfl⟩ : ∃ j, q = k + j := ⟨q - k, by omega⟩
      grind[setV_get_in]
  grind
theorem lenOf_slice {P : Program} {w : World} (a : Option Addr) (n c : Nat) : (Builtin.lenOf (.slice a n c)).run P w = .ok n w := by rfl
theorem VL.one {g : Ghost} {w : World} {cs : List AV} {vs : List Value} (h : VL g w cs vs) (ho : cs.all okCell = true) : ∀ u ∈ vs, u.oneCell' = true := by
  intro u hu
  obtain ⟨j, hj, rfl⟩ := List.mem_iff_getElem.1 hu
  have hj' : j < cs.length := by rw [h.len]; omega
  exact okCell_one (h.at_ j cs[j] _ (by simp) (by simp)) (List.all_eq_true.1 ho cs[j] (by simp))
theorem appendA_sound {E : Env} {L : Lim} {g : Ghost} {w : World} {s s' : Sto} (hI : Inv E g w s) {t u T : TypeId} {ts : List TypeId} {d : TypeDesc} {x y v : AV} {xv yv : Value}
    (hx : V g w x xv) (hy : V g w y yv) (hu : E.P.underlying u = some d) (hd : ∀ k, d ≠ .int k) (h : appendA E.P L s t x y = some (v, s')) :
    ∃ v' w' g', (Builtin.append_ (List.toArray (t :: u :: ts)) T #[xv, yv]).run E.P w = .ok v' w' ∧ V g' w' v v' ∧ Ext L g w g' w' ∧ Inv E g' w' s' := by
  unfold appendA at h
  split at h
  · rename_i elem ht
    split at h
    · rename_i i hi
      split at h
      · rename_i hz
        obtain ⟨hz, hk⟩ := hz
        obtain ⟨z, hz1, hz2⟩ : ∃ z, zeroOf E.P elem = some z ∧ z.length = i.size := by
          cases hq : zeroOf E.P elem with
          | none => simp [hq] at hz
          | some z => simp [hq] at hz; exact ⟨z, rfl, hz⟩
        obtain ⟨i', zv, hi', hzv, _, hzl⟩ := zeroOf_sound (g := g) (w := w) hz1
        have : i' = i := by rw [hi] at hi'; simpa using hi'.symm
        subst this
        have hse : sizeA E.P elem = some i'.size := by simp [sizeA, hi]
        have hzs : zv.cells.size = i'.size := by rw [← Array.length_toList, ← hzl.len]; exact hz2
        split at h
        · -- nothing is appended
          rename_i hsrc
          obtain ⟨n, us, hn, hcl, hfc, hvl⟩ := srcCells_sound hI hy hk hsrc
          have hn0 : n = 0 := by
            rcases Nat.mul_eq_zero.1 hcl.symm with x | x
            · exact x
            · exact absurd x hk
          subst hn0
          have hus : us = [] := hvl.nil_inv
          subst hus
          have key : ∀ (base : Option Addr) (len cap : Nat), xv = .slice base len cap → len ≤ cap →
              (Builtin.append_ (List.toArray (t :: u :: ts)) T #[xv, yv]).run E.P w = .ok xv w := by
            intro base len cap e hle
            subst e
            rw [run_append_room T ts ht hi hu hd hn (hfc w rfl) (by omega)]
            cases base <;> rfl
          split at h
          · rename_i id off len sz
            cases hal : Tel.alive s id with
            | false => grind
            | true =>
              simp only [hal, cond_true, Option.some.injEq, Prod.mk.injEq] at h
              obtain ⟨rfl, rfl⟩ := h
              refine ⟨xv, w, g, ?_, hx, Ext.refl _ _ _, hI⟩
              cases hx with
              | refD hd => exact absurd hd (hI.alive hal)
              | ref _ hcap => grind
          grind[rowsOf_sound,Ext.refl]
        · -- something is appended
          rename_i c cs hsrc
          split at h
          · rename_i hok
            obtain ⟨n, us, hn, hcl, hfc, hvl⟩ := srcCells_sound hI hy hk hsrc
            have hone := hvl.one hok
            have hdiv : (c :: cs).length / i'.size = n := by grind[Nat.mul_div_cancel]
            have hnp : 0 < n := by grind
            have hul : us.length = n * i'.size := by rw [← hvl.len]; omega
            simp only [hdiv] at h
            split at h
            · rename_i id off len sz
              split at h
              · rename_i old hold
                split at h
                · rename_i hc
                  obtain ⟨rfl, rfl, hlo, hal, hb1, hb2, hro⟩ := hc
                  simp only [Option.some.injEq, Prod.mk.injEq] at h
                  obtain ⟨rfl, rfl⟩ := h
                  cases hx with
                  | refD hd => exact absurd hd (hI.alive hal)
                  | @ref _ _ _ _ b cap n' e hblk hcap hs hn' =>
                    obtain ⟨cs', vs, e', k1, k2, kle, k3⟩ := hI.blk id b hblk
                    rw [hold] at k1; simp only [Option.some.injEq] at k1; subst k1
                    have hsh : vs.length = n' := by rw [shape_of_heap k2] at hs; grind
                    have k4 : VL g w (old.take (len * i'.size)) (vs.take (len * i'.size)) := by
                      have := k3.take (len * i'.size)
                      grind
                    by_cases hroom : len + n ≤ cap
                    · have hbd : len * i'.size + us.length ≤ vs.length := by
                        have := Nat.mul_le_mul_right i'.size hroom
                        grind
                      have hst := storeCells_run (P := E.P) (b := b) (o := len * i'.size) (e := e') us 0 w vs hone k2 (by omega)
                      have hol : (old.take (len * i'.size)).length = len * i'.size := by grind
                      obtain ⟨e1, e2⟩ := hI.growB (L := L) (cs' := old.take (len * i'.size) ++ (c :: cs)) (vs' := setV vs (len * i'.size) us) hblk k2 (setV_length _ _ _) hro
                        (by grind[setV_length])
                        (by rw [List.length_append, hcl, ← hul, hol, setV_take_append us vs _ hbd]; exact k4.append hvl)
                      refine ⟨_, _, _, ?_, V.ref (b := b) (e := e') (n := n') ?_ hroom ?_ hn', e1, e2⟩
                      · simp[*,run_append_room,addr_add]
                      all_goals grind[Ghost.addB,shape_of_heap,heap_putRowB,setV_length]
                    · have hvt : (vs.take (len * i'.size)).length = len * i'.size := by grind
                      have hol : (old.take (len * i'.size)).length = len * i'.size := by grind
                      have hos : (Builtin.firstCells i'.size len (.slice (some ⟨b, 0, none⟩) len cap)).run E.P (drewW w) = .ok (List.toArray (vs.take (len * i'.size))) (drewW w) := by grind[Builtin.firstCells,loadCells_run,drewW,cell_of_heap]
                      obtain ⟨ncap, rest, hc1, hc2, hrun⟩ := run_append_grow (base := some ⟨b, 0, none⟩) (sCap := cap) T ts ht hi hu hd hn (hfc (drewW w) rfl) hos hzv (by omega) hb1 hb2
                      obtain ⟨e1, i1⟩ := hI.drew (L := L)
                      obtain ⟨e2, i2⟩ := i1.kill (L := L) hblk hro
                      have hpre : (old.take (len * i'.size) ++ (c :: cs)).length ≤ (vs.take (len * i'.size) ++ us ++ rest).length := by grind
                      have htk : (vs.take (len * i'.size) ++ us ++ rest).take (old.take (len * i'.size) ++ (c :: cs)).length = vs.take (len * i'.size) ++ us := by
                        rw [List.take_left' (by grind)]
                      obtain ⟨e3, i3⟩ := i2.pushB (L := L) (cs := old.take (len * i'.size) ++ (c :: cs)) (vs := vs.take (len * i'.size) ++ us ++ rest) elem hpre (by rw [htk]; exact ((k4.append hvl).mono e1).mono e2)
                      refine ⟨_, _, _, hrun, ?_, (e1.trans e2).trans e3, i3⟩
                      refine V.ref (b := w.heap.size) (e := elem) (n := (vs.take (len * i'.size) ++ us ++ rest).length) ?_ hc1 ?_ ?_
                      · simp [Ghost.addB, drewW]
                      · exact shape_of_heap (by rw [heap_pushW]; exact if_pos rfl)
                      · simp only [List.length_append, hvt, hul, hc2, hzs]
                        rw [← Nat.add_mul, ← Nat.add_mul]
                        grind
                grind
              grind
            · rename_i rows
              split at h
              · rename_i hc
                obtain ⟨hb1, hb2, hall⟩ := hc
                have hl := all_len hall
                cases hx with
                | @capped _ base b o sz f hr =>
                  obtain ⟨os, hfo, _, hrunO⟩ := hr.flat' hk hl rows.length
                  obtain ⟨ncap, rest, hc1, hc2, hrun⟩ := run_append_grow (base := base) (sCap := rows.length) T ts ht hi hu hd hn (hfc (drewW w) rfl) (hrunO E.P (drewW w) rfl) hzv (by omega) hb1 hb2
                  obtain ⟨e1, i1⟩ := hI.drew (L := L)
                  cases hmu : L.mu elem with
                  | true =>
                    simp only [hmu, cond_true, Option.some.injEq, Prod.mk.injEq] at h
                    obtain ⟨rfl, rfl⟩ := h
                    have hvo := (hfo.vl hk).append hvl
                    have hlen : (rows.flatten.map AV.pv ++ (c :: cs)).length = (os ++ us).length := hvo.len
                    obtain ⟨e3, i3⟩ := i1.pushB (L := L) (cs := rows.flatten.map .pv ++ (c :: cs)) (vs := os ++ us ++ rest) elem (by grind) (by rw [hlen, List.take_left' rfl]; exact hvo.mono e1)
                    refine ⟨_, _, _, hrun, ?_, e1.trans e3, i3⟩
                    refine V.ref (b := w.heap.size) (e := elem) (n := (os ++ us ++ rest).length) ?_ hc1 ?_ ?_
                    · simp [Ghost.addB, drewW]
                    · exact shape_of_heap (by rw [heap_pushW]; exact if_pos rfl)
                    · simp only [List.length_append, hfo.len, hul, hc2, hzs]
                      rw [← Nat.add_mul, ← Nat.add_mul]
                      grind
                  | false =>
                    simp only [hmu, cond_false] at h
                    split at h
                    · rename_i ps hps
                      simp only [Option.some.injEq, Prod.mk.injEq] at h
                      obtain ⟨rfl, rfl⟩ := h
                      obtain ⟨q1, q2⟩ := toPVs_sound hvl hps
                      have hfn : Flat g.I w (rowsBy i'.size n ps) i'.size us := flat_of_pvs hul q1 q2
                      have hfa := hfo.append hfn
                      have hvsl : (os ++ us ++ rest).length = ncap * i'.size := by
                        simp only [List.length_append, hfo.len, hul, hc2, hzs]
                        rw [← Nat.add_mul, ← Nat.add_mul]
                        rw [show rows.length + n + (ncap - (rows.length + n)) = ncap by omega]
                      obtain ⟨e3, i3⟩ := i1.pushT (L := L) (t := s.ts.length) (e := elem) hvsl hc1 hk hse (.inl ⟨rfl, rfl⟩)
                      have hrl : (rows ++ rowsBy i'.size n ps).length = rows.length + n := by grind[rowsBy_length]
                      refine ⟨_, _, _, hrun, ?_, e1.trans e3, i3⟩
                      have hV := own_of_flat (g := g.setT s.ts.length ⟨(drewW w).heap.size, ncap, i'.size, rows.length + n, elem⟩) (w := pushW (drewW w) (os ++ us ++ rest) elem) (t := s.ts.length) (b := (drewW w).heap.size) (cap := ncap) (e := elem)
                        (by simp [Ghost.setT]) (hfa.mono (e1.trans e3).mono (e1.trans e3).cell) hrl hc1 (fun o ho => .inr ⟨rfl, ho⟩) (fun q u hq => by
                          rw [cell_of_heap (by rw [heap_pushW]; exact if_pos rfl), List.getElem?_append_left (lt_of_getElem?L hq)]; omega)
                      rw [hrl] at hV
                      exact hV
                    grind
              grind
            · rename_i k rows
              split at h
              · rename_i hc
                obtain ⟨hb1, hb2, hts, hrt, hall⟩ := hc
                have hl := all_len hall
                split at h
                · rename_i ps hps
                  simp only [Option.some.injEq, Prod.mk.injEq] at h
                  obtain ⟨rfl, rfl⟩ := h
                  obtain ⟨q1, q2⟩ := toPVs_sound hvl hps
                  have hfn : Flat g.I w (rowsBy i'.size n ps) i'.size us := flat_of_pvs hul q1 q2
                  have hrl : (rows ++ rowsBy i'.size n ps).length = rows.length + n := by grind[rowsBy_length]
                  cases hx with
                  | @own _ _ base b o sz cap f l hr hcap htk hnl hf =>
                    obtain ⟨l', hl1, hl2, hl3e⟩ := hI.tokN k _ _ hts
                    have : l' = l := by grind
                    subst this
                    obtain ⟨rfl, rfl, rfl, rfl, rfl⟩ := hf hl2.symm
                    obtain ⟨os, hfo, hco, hrunO⟩ := hr.flat' hk hl l'.cap
                    have hfa := hfo.append hfn
                    obtain ⟨vs, fz, hh, hvl', hnc, hsz, hfz, hsl⟩ := hI.tok k l' htk
                    have hl3 : l'.sz = i'.size := by grind
                    by_cases hroom : rows.length + n ≤ l'.cap
                    · have hbd : l'.n * l'.sz + us.length ≤ vs.length := by
                        have := Nat.mul_le_mul_right i'.size hroom
                        grind[Nat.add_mul]
                      have hst := storeCells_runF (P := E.P) (b := l'.b) (o := l'.n * l'.sz) (e := l'.e) hfz us 0 w vs hone hh (by omega)
                      obtain ⟨e3, i3⟩ := hI.growT (L := L) (n := rows.length + n) (us := us) htk hh (by omega) hroom hrt
                      have i3' : Inv E (g.setT k { l' with n := rows.length + n }) (putRowB w l'.b (setV vs (l'.n * l'.sz) us) l'.e fz) { s with ts := s.ts.set k (rows.length + n, elem) } := by grind
                      refine ⟨.slice (some ⟨l'.b, 0, none⟩) (rows.length + n) l'.cap, _, _, ?_, ?_, e3, i3'⟩
                      · simp_all[run_append_room,addr_add]
                      · have hV := own_of_flat (g := g.setT k { l' with n := rows.length + n }) (w := putRowB w l'.b (setV vs (l'.n * l'.sz) us) l'.e fz) (t := k) (b := l'.b) (cap := l'.cap) (sz := l'.sz) (e := l'.e)
                          (by simp [Ghost.setT]) (Flat.resz hl3.symm (hfa.mono e3.mono e3.cell)) hrl hroom (fun o ho => .inr ⟨rfl, ho⟩) (fun q u hq => by
                            rw [cell_of_heap (by rw [heap_putRowB, if_pos rfl, if_pos (hI.tokLt htk)])]
                            rcases Nat.lt_or_ge q os.length with x | x
                            · rw [List.getElem?_append_left x] at hq
                              have := (hco q u hq).2
                              rw [cell_of_heap hh, Nat.zero_add] at this
                              rw [setV_get us vs _ _ (.inl (by rw [hl2, hl3, ← hfo.len]; exact x))]
                              omega
                            · rw [List.getElem?_append_right x] at hq
                              have := setV_get_in us vs (l'.n * l'.sz) _ u hq hbd
                              rw [hl2, hl3, ← hfo.len, show os.length + (q - os.length) = q by omega] at this
                              rw [hl2, hl3, ← hfo.len]
                              omega)
                        grind
                    · obtain ⟨ncap, rest, hc1, hc2, hrun⟩ := run_append_grow (base := some ⟨l'.b, 0, none⟩) (sCap := l'.cap) T ts ht hi hu hd hn (hfc (drewW w) rfl) (hrunO E.P (drewW w) rfl) hzv (by omega) hb1 hb2
                      obtain ⟨e1, i1⟩ := hI.drew (L := L)
                      have hvsl : (os ++ us ++ rest).length = ncap * i'.size := by
                        simp only [List.length_append, hfo.len, hul, hc2, hzs]
                        rw [← Nat.add_mul, ← Nat.add_mul]
                        rw [show rows.length + n + (ncap - (rows.length + n)) = ncap by omega]
                      obtain ⟨e3, i3⟩ := i1.pushT (L := L) (t := k) (e := elem) hvsl hc1 hk hse (.inr ⟨l', htk, by omega, hrt, rfl⟩)
                      refine ⟨_, _, _, hrun, ?_, e1.trans e3, i3⟩
                      have hV := own_of_flat (g := g.setT k ⟨(drewW w).heap.size, ncap, i'.size, rows.length + n, elem⟩) (w := pushW (drewW w) (os ++ us ++ rest) elem) (t := k) (b := (drewW w).heap.size) (cap := ncap) (e := elem)
                        (by simp [Ghost.setT]) (hfa.mono (e1.trans e3).mono (e1.trans e3).cell) hrl hc1 (fun o ho => .inr ⟨rfl, ho⟩) (fun q u hq => by
                          rw [cell_of_heap (by rw [heap_pushW]; exact if_pos rfl), List.getElem?_append_left (lt_of_getElem?L hq)]; omega)
                      rw [hrl] at hV
                      exact hV
                grind
              grind
            grind
          grind
        grind
      grind
    grind
  grind
end Go.Tel
