/-
  Single operations, part 10: make, conversions, nil, plain operations; all together.
-/
import Derived.Test.YtedmfigcajdkbaaGreatDoorTelK
import Derived.Laws.BytesString
import Derived.Orders
namespace Go.Tel

theorem wrap64_small {n : Int} (h0 : 0 ≤ n) (h1 : n ≤ 2 ^ 40) : IntKind.i64.wrap n = n := by
  have hb : IntKind.i64.bits = 64 := rfl
  have hs : IntKind.i64.signed = true := rfl
  unfold IntKind.wrap
  simp only [hb, hs, Bool.true_and]
  have e : n % (2 ^ 64 : Int) = n := Int.emod_eq_of_lt h0 (by omega)
  rw [e, if_neg (by simp; omega)]

theorem makeSlice_run {P : Program} {w : World} {t elem : TypeId} {len cap : Int} {i' : TypeInfo} {zv : Value} (hu : P.underlying t = some (.slice elem)) (hi : P.info? elem = some i')
    (hrun : (zeroValue elem).run P w = .ok zv w) (hzs : zv.cells.size = i'.size) (hk : i'.size ≠ 0) (h0 : 0 ≤ len) (hle : len ≤ cap) (hc40 : cap ≤ 2 ^ 40) (hcb : cap * i'.bytes ≤ 2 ^ 45) :
    (Instr.makeSlice t (.int .i64 len) (.int .i64 cap)).run P w = .ok (.slice (some ⟨w.heap.size, 0, none⟩) len.toNat cap.toNat) (pushW w (repl cap.toNat zv.cells.toList) elem) := by
  have hwl : IntKind.i64.wrap len = len := wrap64_small h0 (by omega)
  have hwc : IntKind.i64.wrap cap = cap := wrap64_small (by omega) hc40
  simp only [Instr.makeSlice, Sem.run_bind, run_underlying hu, Result.andThen_ok, asInt, asIntOf, Sem.run_pure, run_typeInfo hi, hwl, hwc]
  have t1 : (decide (cap < 0) || decide ((i'.bytes : Int) * cap > 2 ^ 48)) = false := by
    have : (i'.bytes : Int) * cap = cap * i'.bytes := Int.mul_comm _ _
    simp; omega
  rw [if_neg (by rw [t1]; simp; omega)]
  simp only [run_askRoom, Result.andThen_ok, run_sizeOf hi, Sem.run_bind]
  by_cases hn0 : cap.toNat * i'.size = 0
  · have hc0 : cap.toNat = 0 := by
      rcases Nat.mul_eq_zero.1 hn0 with x | x
      · exact x
      · exact absurd x hk
    rw [hc0]
    simp only [Nat.zero_mul, if_true, Sem.run_bind, Sem.run_pure, Result.andThen_ok]
    rw [show (Array.map (fun x => (#[] : Array Value)[x % (#[] : Array Value).size]!) (Array.range 0)) = ⟨[]⟩ from by apply Array.ext'; simp]
    rfl
  · rw [if_neg hn0]
    simp only [Sem.run_bind, hrun, Result.andThen_ok, Sem.run_pure]
    have := zero_cells zv.cells cap.toNat (by omega)
    rw [hzs] at this ⊢
    rw [this]
    rfl

theorem makeSliceA_sound {E : Env} {L : Lim} {g : Ghost} {w : World} {s s' : Sto} (hI : Inv E g w s) {t : TypeId} {l c v : AV} {lv cv : Value}
    (hl : V g w l lv) (hc : V g w c cv) (h : makeSliceA E.P s t l c = some (v, s')) :
    ∃ v' w' g', (Instr.makeSlice t lv cv).run E.P w = .ok v' w' ∧ V g' w' v v' ∧ Ext L g w g' w' ∧ Inv E g' w' s' := by
  unfold makeSliceA at h
  split at h
  · rename_i elem len cap hu
    have e1 := hl.scv_inv
    have e2 := hc.scv_inv
    subst e1; subst e2
    split at h
    · rename_i i z hi hz
      split at h
      · rename_i hcnd
        obtain ⟨h0, hle, hc40, hcb, hzl, hk⟩ := hcnd
        obtain ⟨i', zv, hi', hzv, hrun, hvl⟩ := zeroOf_sound (g := g) (w := w) hz
        have : i' = i := by rw [hi] at hi'; simpa using hi'.symm
        subst this
        have hzs : zv.cells.size = i'.size := by rw [← Array.length_toList, ← hvl.len]; exact hzl
        have hr := makeSlice_run (w := w) hu hi hrun hzs hk h0 hle hc40 hcb
        split at h
        · rename_i hc0
          subst hc0
          simp only [Option.some.injEq, Prod.mk.injEq] at h
          obtain ⟨rfl, rfl⟩ := h
          have hl0 : len = 0 := by omega
          subst hl0
          obtain ⟨a1, a2⟩ := hI.pushI (L := L) (repl (0 : Int).toNat zv.cells.toList) elem
          exact ⟨_, _, _, hr, V.capped (b := 0) (o := 0) (sz := 0) (f := fun _ _ => undef) .nil, a1, a2⟩
        · split at h
          · rename_i hcz hlc
            subst hlc
            simp only [Option.some.injEq, Prod.mk.injEq] at h
            obtain ⟨rfl, rfl⟩ := h
            have hv2 := hvl.repl len.toNat
            obtain ⟨a1, a2⟩ := hI.pushB (L := L) elem hv2.full.1 hv2.full.2
            refine ⟨_, _, _, hr, V.ref (b := w.heap.size) (e := elem) (n := (repl len.toNat zv.cells.toList).length) ?_ (Nat.le_refl _) ?_ ?_, a1, a2⟩
            · simp [Ghost.addB]
            · exact shape_of_heap (by rw [heap_pushW, if_pos rfl])
            · rw [repl_length, Array.length_toList, hzs]; omega
          · split at h
            · rename_i hl0
              subst hl0
              simp only [Option.some.injEq, Prod.mk.injEq] at h
              obtain ⟨rfl, rfl⟩ := h
              obtain ⟨a1, a2⟩ := hI.pushT (L := L) (t := s.ts.length) (n := 0) (cap := cap.toNat) (sz := i'.size) (vs := repl cap.toNat zv.cells.toList) (e := elem) (by rw [repl_length, Array.length_toList, hzs]) (Nat.zero_le _) hk (.inl ⟨rfl, rfl⟩)
              refine ⟨_, _, _, hr, ?_, a1, a2⟩
              exact V.own (b := w.heap.size) (o := 0) (sz := i'.size) (f := fun _ _ => undef) (l := ⟨w.heap.size, cap.toNat, i'.size, 0⟩) .nil (Nat.zero_le _) (by simp [Ghost.setT]) (Nat.le_refl _) (fun _ => ⟨rfl, rfl, rfl, rfl, rfl⟩)
            · simp at h
      · simp at h
    · simp at h
  · simp at h

theorem cellBytes_sound {g : Ghost} {w : World} (cs : List AV) : ∀ (l : List UInt8) (us : List Value), cellBytes cs = some l → VL g w cs us →
    ∃ ns : List Int, l = ns.map (fun n => UInt8.ofNat n.toNat) ∧ us = ns.map (Value.int .u8) := by
  induction cs with
  | nil => intro l us h hv; simp [cellBytes] at h; subst h; exact ⟨[], rfl, hv.nil_inv⟩
  | cons r cs ih =>
    intro l us h hv
    obtain ⟨u, us', rfl, h1, h2⟩ := hv.cases
    unfold cellBytes at h
    split at h
    · rename_i heq; cases heq
    · rename_i n rest heq
      cases heq
      split at h
      · rename_i l' hl'
        simp at h; subst h
        obtain ⟨ns, rfl, rfl⟩ := ih l' us' hl' h2
        exact ⟨n :: ns, rfl, by rw [h1.scv_inv]; rfl⟩
      · simp at h
    · simp at h

theorem V.string_inv {g : Ghost} {w : World} {y : AV} {b : ByteArray} (h : V g w y (.string b)) : y = .pv (.sc (.string b)) := by
  cases h with | pv h => cases h; rfl

theorem foldl_push (ns : List Int) : ∀ b : ByteArray, ns.foldl (fun r n => r.push (UInt8.ofNat n.toNat)) b = ⟨b.data ++ (ns.map (fun n => UInt8.ofNat n.toNat)).toArray⟩ := by
  induction ns with
  | nil => intro b; simp
  | cons n ns ih =>
    intro b
    rw [List.foldl_cons, ih]
    congr 1
    apply Array.ext'
    cases b
    simp [ByteArray.push]

theorem sliceBytes_sound {E : Env} {g : Ghost} {w : World} {s : Sto} (hI : Inv E g w s) {y : AV} {yv : Value} {l : List UInt8} (hy : V g w y yv) (h : sliceBytes s y = some l) :
    (∃ a n c, yv = .slice a n c) ∧ (Conv.bytesToString yv).run E.P w = .ok (.string ⟨l.toArray⟩) w := by
  unfold sliceBytes at h
  split at h
  · simp at h
  · rename_i hns
    split at h
    · rename_i cs hcs
      obtain ⟨n, us, h1, h2, h3, h4⟩ := srcCells_sound hI hy (by decide) hcs
      obtain ⟨ns, rfl, rfl⟩ := cellBytes_sound cs l us h h4
      have h3 := h3 w rfl
      cases yv with
      | slice a m c =>
        refine ⟨⟨a, m, c, rfl⟩, ?_⟩
        simp [Builtin.lenOf] at h1
        subst h1
        cases a with
        | none =>
          simp [Builtin.firstCells] at h3
          simp [h3, Conv.bytesToString]
          rfl
        | some a =>
          simp only [Builtin.firstCells, Nat.mul_one] at h3
          rw [run_bytesToString w a m c ns h3, foldl_push]
          congr 3
          simp
      | string b => exact absurd hy.string_inv (hns _)
      | _ => simp [Builtin.lenOf] at h1
    · simp at h

theorem stringToBytes_sound {E : Env} {L : Lim} {g : Ghost} {w : World} {s : Sto} (hI : Inv E g w s) (e : TypeId) (b : ByteArray) :
    ∃ v' w' g', (Conv.stringToBytes e b).run E.P w = .ok v' w' ∧ V g' w' (.pv (.list (b.data.toList.map fun b => [.sc (.int .u8 b.toNat)]))) v' ∧ Ext L g w g' w' ∧ Inv E g' w' s := by
  obtain ⟨e1, i1⟩ := hI.drew (L := L)
  have hcap : ∃ cap vs fz, b.size ≤ cap ∧ (∀ (q : Nat) (x : UInt8), b.data.toList[q]? = some x → vs[q]? = some (Value.int .u8 x.toNat)) ∧
      (Conv.stringToBytes e b).run E.P w = .ok (.slice (some ⟨w.heap.size, 0, none⟩) b.size cap) (objW (drewW w) (.cells ⟨vs⟩ e fz)) := by
    obtain ⟨q, hq⟩ : ∃ q, q = w.tape w.drawn (.appendCap b.size 0 e) % (2 ^ 63 - b.size) := ⟨_, rfl⟩
    obtain ⟨vs, hvs⟩ : ∃ vs, vs = b.data.toList.map (fun b => Value.int .u8 b.toNat) ++ List.replicate q (Value.int .u8 0) := ⟨_, rfl⟩
    refine ⟨b.size + q, vs, (vs.length, vs.length + 1), Nat.le_add_right _ _, ?_, ?_⟩
    · intro k x hk
      rw [hvs, List.getElem?_append_left (by have := lt_of_getElem?L hk; simpa using this), List.getElem?_map, hk]
      rfl
    · have harr : (b.data.map fun b => Value.int .u8 b.toNat) ++ Array.replicate (b.size + q - b.size) (Value.int .u8 0) = ⟨vs⟩ := by
        apply Array.ext'
        rw [hvs]
        simp
      have hsh : (objW (drewW w) (.cells ⟨vs⟩ e)).shape? w.heap.size = some (e, vs.length) := by
        simp only [World.shape?, heap_objW]
        rw [if_pos (show w.heap.size = (drewW w).heap.size from rfl)]
        rfl
      have hfz : (objW (drewW w) (.cells ⟨vs⟩ e)).freeze ⟨w.heap.size, vs.length, none⟩ 1 = objW (drewW w) (.cells ⟨vs⟩ e (vs.length, vs.length + 1)) := by
        refine world_ext ?_ rfl rfl rfl rfl
        apply Array.ext_getElem?
        intro k
        rw [heap_objW]
        simp only [World.freeze, Nat.one_ne_zero, if_false, Array.getElem?_modify, heap_objW]
        by_cases hk : k = w.heap.size
        · subst hk
          have : (drewW w).heap.size = w.heap.size := rfl
          simp [this]
        · have : (drewW w).heap.size = w.heap.size := rfl
          simp [this, hk, Ne.symm hk]
      simp only [Conv.stringToBytes, Sem.run_bind, run_choose, Question.forced, Question.cut, Bool.false_eq_true, if_false, Result.andThen_ok, newRow, run_newObj, Sem.run_pure, markStringish, run_shape]
      rw [← hq, harr]
      have e0 : ({ heap := w.heap.push (.cells ⟨vs⟩ e), tape := w.tape, drawn := w.drawn + 1, os := w.os, output := w.output } : World) = objW (drewW w) (.cells ⟨vs⟩ e) := rfl
      rw [e0, hsh]
      simp only [run_freeze, Result.andThen_ok]
      rw [hfz]
  obtain ⟨cap, vs, fz, hc, hvs, hrun⟩ := hcap
  obtain ⟨e2, i2⟩ := i1.pushO (L := L) (.cells ⟨vs⟩ e fz)
  refine ⟨_, _, _, hrun, ?_, e1.trans e2, i2⟩
  have hra : RowsAt (g.addI fun b _ => b = (drewW w).heap.size).I (objW (drewW w) (.cells ⟨vs⟩ e fz)) (b.data.toList.map fun b => [PV.sc (.int .u8 b.toNat)]) (some ⟨w.heap.size, 0, none⟩) w.heap.size 0 1 (fun i _ => (vs[i]?).getD undef) := by
    refine ⟨fun row hr => ?_, fun _ _ => rfl, fun i row j c hr hj => ?_, fun i row j c hr hj => ?_⟩
    · obtain ⟨x, _, rfl⟩ := List.mem_map.1 hr; rfl
    · rw [List.getElem?_map] at hr
      cases hx : b.data.toList[i]? with
      | none => simp [hx] at hr
      | some x =>
        simp [hx] at hr; subst hr
        have hj0 : j = 0 := by have := lt_of_getElem?L hj; simp at this; exact this
        subst hj0
        refine ⟨.inr rfl, ?_⟩
        rw [cell_of_heap (by rw [heap_objW]; exact if_pos rfl)]
        simp [hvs i x hx]
    · rw [List.getElem?_map] at hr
      cases hx : b.data.toList[i]? with
      | none => simp [hx] at hr
      | some x =>
        simp [hx] at hr; subst hr
        have hj0 : j = 0 := by have := lt_of_getElem?L hj; simp at this; exact this
        subst hj0
        simp at hj; subst hj
        rw [hvs i x hx]
        exact .sc _
  have hlen : (b.data.toList.map fun b => [PV.sc (Value.int .u8 b.toNat)]).length = b.size := by rw [List.length_map, Array.length_toList]; rfl
  have := VP.of_rows hra (show _ ≤ cap by rw [hlen]; exact hc)
  rw [hlen] at this
  exact .pv this

end Go.Tel
