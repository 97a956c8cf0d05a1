/-
  A row that is appended as zero and then written: the world meanwhile.
-/
import Derived.Test.YtcmeadgdojfhnaaGreatDoorEvE
set_option linter.unusedSimpArgs false
set_option linter.unusedVariables false
namespace Go.Tel
theorem setV_any (us : List Value) : ∀ (vs vs' : List Value) (k : Nat), vs.length = vs'.length → (∀ q, (q < k ∨ k + us.length ≤ q) → vs[q]? = vs'[q]?) → setV vs k us = setV vs' k us := by
  induction us with
  | nil => intro vs vs' k hl h; simp only [setV]; exact List.ext_getElem? fun q => h q (by grind)
  | cons u us ih =>
    grind[setV]
theorem setV_setV (us zs : List Value) (h : zs.length = us.length) (vs : List Value) (k : Nat) : setV (setV vs k zs) k us = setV vs k us :=
  setV_any us _ _ k (setV_length _ _ _) fun _ hq => setV_get _ _ _ _ (by omega)
theorem setV_pre (us : List Value) : ∀ (os r : List Value), r.length = us.length → ∀ rest, setV (os ++ r ++ rest) os.length us = os ++ us ++ rest := by
  intro os r hr rest
  apply List.ext_getElem?
  intro q
  rcases Nat.lt_or_ge q os.length with a | a
  · grind[setV_get]
  · rcases Nat.lt_or_ge q (os.length + us.length) with b | b
    · obtain ⟨j, rfl⟩ : ∃ j, q = os.length + j := ⟨q - os.length, by omega⟩
      simp_all[setV_get_in,List.getElem?_append_right,List.getElem?_append_left]
    grind[setV_get]
theorem setV_mid {os rest : List Value} (zs us : List Value) (h : zs.length = us.length) : setV (os ++ zs ++ rest) os.length us = os ++ us ++ rest := setV_pre us os zs h rest
theorem putRowB_pushW {w : World} {vs us : List Value} {e : TypeId} : putRowB (pushW w vs e) w.heap.size us e = pushW w us e := by
  refine world_ext ?_ rfl rfl rfl rfl
  apply Array.ext_getElem?
  grind[heap_putRowB,pushW]
theorem VP.one {I : Nat → Nat → Prop} {w : World} {p : PV} {u : Value} (g : Ghost) (hg : g.I = I) (h : VP I w p u) (ho : okCell (.pv p) = true) : u.oneCell' = true := by
  subst hg
  exact okCell_one (.pv h) ho
theorem Flat.one {I : Nat → Nat → Prop} {w : World} {z : List PV} {us : List Value} (g : Ghost) (hg : g.I = I) (h : Flat I w [z] z.length us) (ho : (z.map AV.pv).all okCell = true) : ∀ u ∈ us, u.oneCell' = true := by
  intro u hu
  obtain ⟨j, hj, rfl⟩ := List.mem_iff_getElem.1 hu
  have hlen := h.len
  simp at hlen
  obtain ⟨u', h1, h2⟩ := h.at_ 0 z j z[j] rfl (by simp)
  grind[VP.one]
theorem appendRow_open {E : Env} {L : Lim} {g : Ghost} {w : World} {s s' : Sto} (hI : Inv E g w s) {t elem T : TypeId} {i : TypeInfo} {x y v : AV} {xv yv : Value} {rows : List (List PV)} {z row : List PV} {us : List Value}
    (ht : E.P.underlying t = some (.slice elem)) (hi : E.P.info? elem = some i) (hk : i.size ≠ 0) (hze : (zeroOf E.P elem).map List.length = some i.size)
    (hx : V g w x xv) (hxr : rowsOf x = some rows) (hy : V g w y yv) (hyr : rowsOf y = some [z]) (hzl : z.length = i.size) (hzo : (z.map AV.pv).all okCell = true)
    (hus : us.length = i.size) (hrow : row.length = i.size) (hvp : ∀ (j : Nat) p, row[j]? = some p → ∃ u, us[j]? = some u ∧ VP g.I w p u)
    (h : appendRow L s elem i x row = some (v, s')) :
    ∃ b cap vz e fz w1 wv g',
      (Builtin.append_ #[t, t] T #[xv, yv]).run E.P w = .ok (.slice (some ⟨b, 0, none⟩) (rows.length + 1) cap) w1 ∧
      V g' wv v (.slice (some ⟨b, 0, none⟩) (rows.length + 1) cap) ∧ Ext L g w g' wv ∧ Inv E g' wv s' ∧
      wv.heap[b]? = some (.cells ⟨setV vz (rows.length * i.size) us⟩ e fz) ∧ w1 = putRowB wv b vz e fz ∧ (rows.length * i.size + us.length ≤ vz.length ∧ fz.2 ≤ rows.length * i.size) ∧
      (∃ k l, g'.tok k = some l ∧ l.b = b) := by
  obtain ⟨ybase, ycap, yb, yo, ysz, yf, rfl, hycap, hyra⟩ := rowsOf_sound hy hyr
  obtain ⟨zs, hzf, _, hzrun⟩ := hyra.flat' (k := i.size) hk (by grind) ycap
  have hzsl : zs.length = i.size := by have := hzf.len; grind
  have hzone : ∀ u ∈ zs, u.oneCell' = true := Flat.one g rfl (by rw [hzl]; omega) hzo
  obtain ⟨zz, hzz⟩ : ∃ zz, zeroOf E.P elem = some zz := by grind[zeroOf]
  obtain ⟨i', zv, hi', hzv, _, hzvl⟩ := zeroOf_sound (g := g) (w := w) hzz
  have : i' = i := by grind
  subst this
  have hse : sizeA E.P elem = some i'.size := by grind[sizeA]
  have hzs : zv.cells.size = i'.size := by rw [← Array.length_toList, ← hzvl.len]; grind
  have hn : (Builtin.lenOf (.slice ybase [z].length ycap)).run E.P w = .ok 1 w := lenOf_slice _ _ _
  have hd : ∀ k, TypeDesc.slice elem ≠ .int k := fun k e => by grind
  have hfn : Flat g.I w [row] i'.size us := by
    have := flat_of_pvs (k := i'.size) (n := 1) (ps := row) (us := us) (I := g.I) (w := w) (by omega) (by omega) hvp
    grind[rowsBy]
  unfold appendRow at h
  split at h
  · rename_i rows'
    simp [rowsOf] at hxr; subst hxr
    split at h
    · rename_i hc
      obtain ⟨hb1, hb2, hall⟩ := hc
      have hl := all_len hall
      simp only [Option.some.injEq, Prod.mk.injEq] at h
      obtain ⟨rfl, rfl⟩ := h
      cases hx with
      | @capped _ base b o sz f hr =>
        obtain ⟨os, hfo, _, hrunO⟩ := hr.flat' hk hl rows'.length
        obtain ⟨ncap, rest, hc1, hc2, hrun⟩ := run_append_grow (base := base) (sCap := rows'.length) T [] ht hi ht hd hn (hzrun E.P (drewW w) rfl) (hrunO E.P (drewW w) rfl) hzv (by omega) hb1 hb2
        obtain ⟨e1, i1⟩ := hI.drew (L := L)
        have hfa := hfo.append hfn
        have hvsl : (os ++ us ++ rest).length = ncap * i'.size := by
          simp only [List.length_append, hfo.len, hus, hc2, hzs]
          rw [show rows'.length * i'.size + i'.size = (rows'.length + 1) * i'.size by grind, ← Nat.add_mul]
          rw [show rows'.length + 1 + (ncap - (rows'.length + 1)) = ncap by omega]
        obtain ⟨e3, i3⟩ := i1.pushT (L := L) (t := s.ts.length) (n := rows'.length + 1) (e := elem) hvsl hc1 hk hse (.inl ⟨rfl, rfl⟩)
        have hrl : (rows' ++ [row]).length = rows'.length + 1 := by simp
        refine ⟨w.heap.size, ncap, os ++ zs ++ rest, elem, (0, 0), _, pushW (drewW w) (os ++ us ++ rest) elem, _, hrun, ?_, e1.trans e3, i3, ?_, ?_, ?_, s.ts.length, ⟨(drewW w).heap.size, ncap, i'.size, rows'.length + 1, elem⟩, by simp [Ghost.setT], rfl⟩
        · have hV := own_of_flat (g := g.setT s.ts.length ⟨(drewW w).heap.size, ncap, i'.size, rows'.length + 1, elem⟩) (w := pushW (drewW w) (os ++ us ++ rest) elem) (t := s.ts.length) (b := (drewW w).heap.size) (cap := ncap) (e := elem)
            (by simp [Ghost.setT]) (hfa.mono (e1.trans e3).mono (e1.trans e3).cell) hrl hc1 (fun o ho => .inr ⟨rfl, ho⟩) (fun q u hq => by
              rw [cell_of_heap (by rw [heap_pushW]; exact if_pos rfl), List.getElem?_append_left (lt_of_getElem?L hq)]; omega)
          rw [hrl] at hV
          exact hV
        · rw [heap_pushW, if_pos (show w.heap.size = (drewW w).heap.size from rfl), ← hfo.len, setV_mid zs us (by omega)]
        · grind[putRowB_pushW,drewW]
        · exact ⟨by simp [hfo.len, hzsl, hus], Nat.zero_le _⟩
    grind
  · rename_i k rows'
    simp [rowsOf] at hxr; subst hxr
    split at h
    · rename_i hc
      obtain ⟨hb1, hb2, hts, hrt, hall⟩ := hc
      have hl := all_len hall
      simp only [Option.some.injEq, Prod.mk.injEq] at h
      obtain ⟨rfl, rfl⟩ := h
      have hrl : (rows' ++ [row]).length = rows'.length + 1 := by simp
      cases hx with
      | @own _ _ base b o sz cap f l hr hcap htk hnl hf =>
        obtain ⟨l', hl1, hl2, hl3e⟩ := hI.tokN k _ _ hts
        have : l' = l := by grind
        subst this
        obtain ⟨rfl, rfl, rfl, rfl, rfl⟩ := hf hl2.symm
        obtain ⟨os, hfo, hco, hrunO⟩ := hr.flat' hk hl l'.cap
        have hfa := hfo.append hfn
        obtain ⟨vs, fz, hh, hvl', hnc, hsz, hfz, hsl⟩ := hI.tok k l' htk
        have hl3 : l'.sz = i'.size := by grind
        by_cases hroom : rows'.length + 1 ≤ l'.cap
        · have hbd : l'.n * l'.sz + i'.size ≤ vs.length := by
            have := Nat.mul_le_mul_right i'.size hroom
            grind
          have hst := storeCells_runF (P := E.P) (b := l'.b) (o := l'.n * l'.sz) (e := l'.e) hfz zs 0 w vs hzone hh (by omega)
          obtain ⟨e3, i3⟩ := hI.growT (L := L) (n := rows'.length + 1) (us := us) htk hh (by omega) hroom hrt
          have i3' : Inv E (g.setT k { l' with n := rows'.length + 1 }) (putRowB w l'.b (setV vs (l'.n * l'.sz) us) l'.e fz) { s with ts := s.ts.set k (rows'.length + 1, elem) } := by grind
          refine ⟨l'.b, l'.cap, setV vs (l'.n * l'.sz) zs, l'.e, fz, putRowB w l'.b (setV vs (l'.n * l'.sz) zs) l'.e fz, putRowB w l'.b (setV vs (l'.n * l'.sz) us) l'.e fz, _, ?_, ?_, e3, i3', ?_, ?_, ?_, k, { l' with n := rows'.length + 1 }, by simp [Ghost.setT], rfl⟩
          · simp_all[run_append_room,addr_add]
          · have hV := own_of_flat (g := g.setT k { l' with n := rows'.length + 1 }) (w := putRowB w l'.b (setV vs (l'.n * l'.sz) us) l'.e fz) (t := k) (b := l'.b) (cap := l'.cap) (sz := l'.sz) (e := l'.e)
              (by simp [Ghost.setT]) (Flat.resz hl3.symm (hfa.mono e3.mono e3.cell)) hrl hroom (fun o ho => .inr ⟨rfl, ho⟩) (fun q u hq => by
                rw [cell_of_heap (by rw [heap_putRowB, if_pos rfl, if_pos (hI.tokLt htk)])]
                rcases Nat.lt_or_ge q os.length with x | x
                · rw [List.getElem?_append_left x] at hq
                  have := (hco q u hq).2
                  rw [cell_of_heap hh, Nat.zero_add] at this
                  rw [setV_get us vs _ _ (.inl (by rw [hl2, hl3, ← hfo.len]; exact x))]
                  omega
                · rw [List.getElem?_append_right x] at hq
                  have := setV_get_in us vs (l'.n * l'.sz) _ u hq (by omega)
                  rw [hl2, hl3, ← hfo.len, show os.length + (q - os.length) = q by omega] at this
                  rw [hl2, hl3, ← hfo.len]
                  omega)
            grind
          · grind[heap_putRowB,setV_setV]
          · exact putRowB_putRowB.symm
          grind[setV_length]
        · obtain ⟨ncap, rest, hc1, hc2, hrun⟩ := run_append_grow (base := some ⟨l'.b, 0, none⟩) (sCap := l'.cap) T [] ht hi ht hd hn (hzrun E.P (drewW w) rfl) (hrunO E.P (drewW w) rfl) hzv (by omega) hb1 hb2
          obtain ⟨e1, i1⟩ := hI.drew (L := L)
          have hvsl : (os ++ us ++ rest).length = ncap * i'.size := by
            simp only [List.length_append, hfo.len, hus, hc2, hzs]
            rw [show rows'.length * i'.size + i'.size = (rows'.length + 1) * i'.size by grind, ← Nat.add_mul]
            rw [show rows'.length + 1 + (ncap - (rows'.length + 1)) = ncap by omega]
          obtain ⟨e3, i3⟩ := i1.pushT (L := L) (t := k) (n := rows'.length + 1) (e := elem) hvsl hc1 hk hse (.inr ⟨l', htk, by omega, hrt, rfl⟩)
          refine ⟨w.heap.size, ncap, os ++ zs ++ rest, elem, (0, 0), _, pushW (drewW w) (os ++ us ++ rest) elem, _, hrun, ?_, e1.trans e3, i3, ?_, ?_, ?_, k, ⟨(drewW w).heap.size, ncap, i'.size, rows'.length + 1, elem⟩, by simp [Ghost.setT], rfl⟩
          · have hV := own_of_flat (g := g.setT k ⟨(drewW w).heap.size, ncap, i'.size, rows'.length + 1, elem⟩) (w := pushW (drewW w) (os ++ us ++ rest) elem) (t := k) (b := (drewW w).heap.size) (cap := ncap) (e := elem)
              (by simp [Ghost.setT]) (hfa.mono (e1.trans e3).mono (e1.trans e3).cell) hrl hc1 (fun o ho => .inr ⟨rfl, ho⟩) (fun q u hq => by
                rw [cell_of_heap (by rw [heap_pushW]; exact if_pos rfl), List.getElem?_append_left (lt_of_getElem?L hq)]; omega)
            rw [hrl] at hV
            exact hV
          · rw [heap_pushW, if_pos (show w.heap.size = (drewW w).heap.size from rfl), ← hfo.len, setV_mid zs us (by omega)]
          · grind[putRowB_pushW,drewW]
          · exact ⟨by simp [hfo.len, hzsl, hus], Nat.zero_le _⟩
    grind
  grind
theorem fuseM_open {E : Env} {L : Lim} {g : Ghost} {w : World} {s : Sto} (hI : Inv E g w s) {t elem T : TypeId} {i : TypeInfo} {y : AV} {xv yv : Value} {id len : Nat} {old zs cells : List AV} {us : List Value}
    (ht : E.P.underlying t = some (.slice elem)) (hi : E.P.info? elem = some i) (hk : i.size ≠ 0) (hze : (zeroOf E.P elem).map List.length = some i.size)
    (hx : V g w (.ref id 0 len i.size) xv) (hy : V g w y yv) (hzs : srcCells s i.size y = some zs) (hzl : zs.length = i.size) (hzo : zs.all okCell = true)
    (hold : s.bs[id]? = some old) (hlo : len * i.size ≤ old.length) (hal : Tel.alive s id = true) (hb1 : (len + 1) * i.bytes ≤ 2 ^ 45) (hb2 : len + 1 ≤ 2 ^ 45) (hro : L.ro ≤ id)
    (hus : us.length = i.size) (hvl : VL g w cells us) :
    ∃ b cap vz e fz w1 wv g',
      (Builtin.append_ #[t, t] T #[xv, yv]).run E.P w = .ok (.slice (some ⟨b, 0, none⟩) (len + 1) cap) w1 ∧
      V g' wv (.ref s.bs.length 0 (len + 1) i.size) (.slice (some ⟨b, 0, none⟩) (len + 1) cap) ∧ Ext L g w g' wv ∧ Inv E g' wv { s with bs := s.bs.set id [] ++ [old.take (len * i.size) ++ cells] } ∧
      wv.heap[b]? = some (.cells ⟨setV vz (len * i.size) us⟩ e fz) ∧ w1 = putRowB wv b vz e fz ∧ (len * i.size + us.length ≤ vz.length ∧ fz.2 ≤ len * i.size) ∧
      g'.blk s.bs.length = some b := by
  obtain ⟨zz, hzz⟩ : ∃ zz, zeroOf E.P elem = some zz := by grind[zeroOf]
  obtain ⟨i', zv, hi', hzv, _, hzvl⟩ := zeroOf_sound (g := g) (w := w) hzz
  have : i' = i := by grind
  subst this
  have hzsz : zv.cells.size = i'.size := by rw [← Array.length_toList, ← hzvl.len]; grind
  obtain ⟨n, zsv, hn, hcl, hfc, hzvl2⟩ := srcCells_sound hI hy hk hzs
  have hn1 : n = 1 := by
    rw [hzl] at hcl
    exact (Nat.eq_of_mul_eq_mul_right (Nat.pos_of_ne_zero hk) (by omega)).symm
  subst hn1
  have hzone : ∀ u ∈ zsv, u.oneCell' = true := hzvl2.one hzo
  have hzsl : zsv.length = i'.size := by rw [← hzvl2.len]; omega
  have hcells : cells.length = i'.size := by rw [hvl.len]; omega
  have hd : ∀ k, TypeDesc.slice elem ≠ .int k := fun k e => by grind
  cases hx with
  | refD hd => exact absurd hd (hI.alive hal)
  | @ref _ _ _ _ b cap n' e hblk hcap hs hn' =>
    obtain ⟨cs', vs, e', k1, k2, kle, k3⟩ := hI.blk id b hblk
    rw [hold] at k1; simp only [Option.some.injEq] at k1; subst k1
    have hsh : vs.length = n' := by rw [shape_of_heap k2] at hs; grind
    have k4 : VL g w (old.take (len * i'.size)) (vs.take (len * i'.size)) := by
      have := k3.take (len * i'.size)
      grind
    have hol : (old.take (len * i'.size)).length = len * i'.size := by grind
    by_cases hroom : len + 1 ≤ cap
    · have hbd : len * i'.size + us.length ≤ vs.length := by
        have := Nat.mul_le_mul_right i'.size hroom
        grind
      have hst := storeCells_run (P := E.P) (b := b) (o := len * i'.size) (e := e') zsv 0 w vs hzone k2 (by omega)
      obtain ⟨e1, e2⟩ := hI.growB (L := L) (cs' := old.take (len * i'.size) ++ cells) (vs' := setV vs (len * i'.size) us) hblk k2 (setV_length _ _ _) hro
        (by grind[setV_length])
        (by rw [List.length_append, hol, hvl.len, setV_take_append us vs _ hbd]; exact k4.append hvl)
      refine ⟨b, cap, setV vs (len * i'.size) zsv, e', (0, 0), putRowB w b (setV vs (len * i'.size) zsv) e', putRowB w b (setV vs (len * i'.size) us) e', _, ?_, V.ref (b := b) (e := e') (n := n') ?_ hroom ?_ hn', e1, e2, ?_, ?_, ?_, ?_⟩
      · simp[*,run_append_room,addr_add]
      · simp [Ghost.addB]
      · grind[shape_of_heap,heap_putRowB,setV_length]
      · grind[heap_putRowB,setV_setV]
      · exact putRowB_putRowB.symm
      all_goals grind[setV_length,Ghost.addB]
    · have hvt : (vs.take (len * i'.size)).length = len * i'.size := by grind
      have hos : (Builtin.firstCells i'.size len (.slice (some ⟨b, 0, none⟩) len cap)).run E.P (drewW w) = .ok (List.toArray (vs.take (len * i'.size))) (drewW w) := by grind[Builtin.firstCells,loadCells_run,drewW,cell_of_heap]
      obtain ⟨ncap, rest, hc1, hc2, hrun⟩ := run_append_grow (base := some ⟨b, 0, none⟩) (sCap := cap) T [] ht hi ht hd hn (hfc (drewW w) rfl) hos hzv (by omega) hb1 hb2
      obtain ⟨e1, i1⟩ := hI.drew (L := L)
      obtain ⟨e2, i2⟩ := i1.kill (L := L) hblk hro
      have hpre : (old.take (len * i'.size) ++ cells).length ≤ (vs.take (len * i'.size) ++ us ++ rest).length := by grind
      have htk : (vs.take (len * i'.size) ++ us ++ rest).take (old.take (len * i'.size) ++ cells).length = vs.take (len * i'.size) ++ us := by
        rw [List.take_left' (by grind)]
      obtain ⟨e3, i3⟩ := i2.pushB (L := L) (cs := old.take (len * i'.size) ++ cells) (vs := vs.take (len * i'.size) ++ us ++ rest) elem hpre (by rw [htk]; exact ((k4.append hvl).mono e1).mono e2)
      have hl : ({ s with bs := s.bs.set id [] } : Sto).bs.length = s.bs.length := by simp
      refine ⟨w.heap.size, ncap, vs.take (len * i'.size) ++ zsv ++ rest, elem, (0, 0), _, pushW (drewW w) (vs.take (len * i'.size) ++ us ++ rest) elem, _, hrun, ?_, (e1.trans e2).trans e3, i3, ?_, ?_, ?_, ?_⟩
      · refine V.ref (b := w.heap.size) (e := elem) (n := (vs.take (len * i'.size) ++ us ++ rest).length) ?_ hc1 ?_ ?_
        · simp [Ghost.addB, drewW]
        · exact shape_of_heap (by rw [heap_pushW]; exact if_pos rfl)
        · simp only [List.length_append, hvt, hus, hc2, hzsz]
          have h1 : len * i'.size + i'.size = (len + 1) * i'.size := by grind
          rw [h1, ← Nat.add_mul]
          grind
      all_goals grind[heap_pushW,drewW,setV_mid,putRowB_pushW,Ghost.addB]
end Go.Tel
/-
  What may happen while a row is appended but not yet written.
-/
namespace Go.Tel
theorem putRowB_comm {w : World} {b b' : Nat} {vs us : List Value} {e e' : TypeId} {fz fz' : Nat × Nat} (h : b ≠ b') : putRowB (putRowB w b vs e fz) b' us e' fz' = putRowB (putRowB w b' us e' fz') b vs e fz := by
  refine world_ext ?_ rfl rfl rfl rfl
  exact Array.setIfInBounds_comm _ _ h
theorem storeA_any {E : Env} {L : Lim} {g : Ghost} {w : World} {s s' : Sto} (hI : Inv E g w s) {t : TypeId} {a x : AV} {av xv : Value}
    (ha : V g w a av) (hx : V g w x xv) (h : storeA E L s t a x = some s') :
    ∃ id b vs e, (∃ off, a = .ptr id off) ∧ g.blk id = some b ∧ Ext L g w g (putRowB w b vs e) ∧ Inv E g (putRowB w b vs e) s' ∧
      ∀ w2 : World, w2.heap[b]? = w.heap[b]? → (Instr.storeAt t av xv).run E.P w2 = .ok () (putRowB w2 b vs e) := by
  unfold storeA at h
  split at h
  · rename_i id off i hi
    split at h
    · rename_i cs hcs
      simp only at h
      split at h
      · rename_i hc
        obtain ⟨h1, h2, h3, h4, _, hi0⟩ := hc
        simp at h; subst h
        simp only [lookB] at hcs
        cases ha with
        | ptrD hd =>
          have := hI.deadE id hd
          grind
        | @ptr _ _ b hb =>
          obtain ⟨cs', vs, e, k1, k2, kle, k3⟩ := hI.blk id b hb
          rw [hcs] at k1; simp at k1; subst k1
          have hv := cellsOf_sound hx h4
          have hone : ∀ u ∈ xv.cells.toList, u.oneCell' = true := VL.one hv h4
          have hlen : xv.cells.size = i.size := by rw [← Array.length_toList, ← hv.len]; omega
          obtain ⟨q1, q2⟩ := hI.putRow (L := L) (vs' := setV vs off xv.cells.toList) (cs' := setCells cs off (cellsOf x)) hb k2 (setV_length _ _ _) h3 (by grind[setCells_length,setV_length]) (by grind[setCells_length,setV_take,VL.setCells])
          refine ⟨id, b, _, e, ⟨off, rfl⟩, hb, q1, q2, fun w2 hw2 => ?_⟩
          simp only [Instr.storeAt, Instr.sureAddr, storeVar, Sem.run_bind, Sem.run_pure, Result.andThen_ok, run_sizeOf hi, hlen, ne_eq, not_true_eq_false, if_false]
          have := storeCells_run (P := E.P) (b := b) (o := off) (e := e) xv.cells.toList 0 w2 vs hone (hw2.trans k2) (by grind)
          omega
      grind
    grind
  grind
theorem safe_run {E : Env} {L : Lim} {g : Ghost} {w : World} {s : Sto} {ρ : Nat → AV} {a : Act} {o : Oper} {v : AV} (ho : (∃ x, o.op = .nilCheck x) ∨ (∃ t x f, o.op = .fieldAddr t x f) ∨ (∃ x, o.op = .move x))
    (hI : Inv E g w s) (hρ : ∀ t, V g w (ρ t) (a.tmps.getD t undef)) (h : quietA E L ρ s o = some v) :
    ∃ v', (∀ w2 : World, (execOp a.eval o).run E.P w2 = .ok (.value v') w2) ∧ V g w v v' := by
  have h := quietA_opA h
  obtain ⟨dst, op, type, pos, after, guard⟩ := o
  rcases ho with ⟨x, rfl⟩ | ⟨t, x, f, rfl⟩ | ⟨x, rfl⟩
  · simp only [opA] at h
    split at h
    · rename_i u hu
      simp at h; subst h
      exact nilCheck_sound _ rfl hI hρ hu
    grind
  · simp only [opA] at h
    split at h
    · rename_i u hu
      simp at h; subst h
      obtain ⟨v', hr, hv⟩ := fieldAddrA_sound hI (evalO_sound hρ x) hu
      simp[*,execOp]
    grind
  · simp only [opA, Option.some.injEq, Prod.mk.injEq] at h
    obtain ⟨rfl, _⟩ := h
    simp_all[execOp,evalO_sound]
end Go.Tel
/-
  A region with a drawn order: what the plan gives, in whatever order the operations come.
-/
namespace Go.Tel
structure Reg (E : Env) (L : Lim) (cf : CallF) (ops : Array Oper) (p : Plan) (K N : Nat) (ρ0 ρf : Nat → AV) (σ : Nat → Sto) : Prop where
  edge : ∀ (i : Nat) o e, ops[i]? = some o → e ∈ o.after → Region.binds .any e = true → e.on < i
  pre : ∀ (i : Nat) o j, ops[i]? = some o → j ∈ preOf p i → ∃ e, e ∈ o.after ∧ Region.binds .any e = true ∧ (e.on = j ∨ j ∈ preOf p e.on)
  cls : ∀ (i : Nat) o, ops[i]? = some o → ∃ c, p.cls[i]? = some c
  dst : ∀ (i j : Nat) oi oj d, ops[i]? = some oi → ops[j]? = some oj → oi.dst = some d → oj.dst = some d → i = j
  read : ∀ (i j : Nat) oi oj d, ops[i]? = some oi → ops[j]? = some oj → oj.dst = some d → d ∈ guardRead ops oi ++ opReads oi →
    (has (warOf p.war i) d = true ∧ (j = i ∨ i ∈ preOf p j)) ∨ (has (warOf p.war i) d = false ∧ j ∈ preOf p i)
  rk : ∀ (i j : Nat) oi oj r r', ops[i]? = some oi → ops[j]? = some oj → rank p i = some r → rank p j = some r' → r < r' → i ∈ preOf p j
  rkInj : ∀ (i j : Nat) oi oj r, ops[i]? = some oi → ops[j]? = some oj → rank p i = some r → rank p j = some r → i = j
  rkEx : ∀ k, k < K → ∃ (i : Nat) (o : Oper), ops[i]? = some o ∧ rank p i = some k
  rkLt : ∀ (i : Nat) o r, ops[i]? = some o → rank p i = some r → r < K
  time : ∀ (i : Nat) o ts, ops[i]? = some o → (p.cls[i]? = some (.q ts) ∨ p.cls[i]? = some (.h ts)) → ∀ k, k ≤ K → k ∉ ts →
    ∃ (j : Nat) (oj : Oper) (r : Nat), ops[j]? = some oj ∧ rank p j = some r ∧ ((j ∈ preOf p i ∧ k ≤ r) ∨ (i ∈ preOf p j ∧ r < k))
  fuse : ∀ (i : Nat) o r (j x : Nat), ops[i]? = some o → p.cls[i]? = some (.fa r j x) → ∃ o1 o2 k, ops[j]? = some o1 ∧ ops[x]? = some o2 ∧ p.cls[j]? = some .fj ∧ p.cls[x]? = some .fx ∧ fused o o1 o2 = some k ∧
    warOf p.war i = [] ∧ warOf p.war j = [] ∧ warOf p.war x = [] ∧ i ∈ preOf p j ∧ j ∈ preOf p x ∧ i ∈ preOf p x ∧
    ∃ v, fuseX E L ρf (σ r) k = some (v, σ (r + 1)) ∧ ρf k.d = v ∧ ρf k.p = .junk
  win : ∀ (i : Nat) o r (j x : Nat), ops[i]? = some o → p.cls[i]? = some (.fa r j x) → ∀ (m : Nat) om, ops[m]? = some om → m ≠ i → m ≠ j → m ≠ x →
    (m ∈ preOf p i ∨ x ∈ preOf p m ∨ safeOp ops p m = true) ∧ ∀ d, om.dst = some d → (d ∈ readsAt ops j ∨ d ∈ readsAt ops x) → m ∈ preOf p i
  mu : ∀ (i : Nat) o r (j x d id0 off len sz : Nat), muFa E L ops i j x = true → ops[i]? = some o → p.cls[i]? = some (.fa r j x) → o.dst = some d → ρf d = .ref id0 off len sz → ∀ (m : Nat) om r' t y z, ops[m]? = some om → p.cls[m]? = some (.w r') → om.op = .store t y z →
    ∀ id off', evalO (envAt p.war ρ0 ρf m) y = .ptr id off' → id ≠ id0
  fjEx : ∀ (j : Nat) oj, ops[j]? = some oj → p.cls[j]? = some .fj → ∃ (i : Nat) (o : Oper) (r x : Nat), ops[i]? = some o ∧ p.cls[i]? = some (.fa r j x)
  fxEx : ∀ (x : Nat) ox, ops[x]? = some ox → p.cls[x]? = some .fx → ∃ (i : Nat) (o : Oper) (r j : Nat), ops[i]? = some o ∧ p.cls[i]? = some (.fa r j x)
  out : ∀ t, (∀ (i : Nat) o, ops[i]? = some o → o.dst ≠ some t) → ρf t = ρ0 t
  dstN : ∀ (i : Nat) o d, ops[i]? = some o → o.dst = some d → d < N
  wF : ∀ (i : Nat) o r, ops[i]? = some o → p.cls[i]? = some (.w r) → ∃ v, actG E L cf ops (envAt p.war ρ0 ρf i) (σ r) o = some (v, σ (r + 1)) ∧ ∀ d, o.dst = some d → ρf d = v
  qF : ∀ (i : Nat) o ts k, ops[i]? = some o → p.cls[i]? = some (.q ts) → k ∈ ts → ∃ v, quietG E L ops (envAt p.war ρ0 ρf i) (σ k) o = some v ∧ ∀ d, o.dst = some d → ρf d = v
  hF : ∀ (i : Nat) o ts, ops[i]? = some o → p.cls[i]? = some (.h ts) → o.guard = none ∧ ∃ d cs mk id, o.dst = some d ∧ hcells E (envAt p.war ρ0 ρf i) o = some (cs, mk) ∧ ρf d = mk id ∧ ∀ k ∈ ts, (σ k).bs[id]? = some cs
  hInj : ∀ (i j : Nat) oi oj ts us d e id, ops[i]? = some oi → ops[j]? = some oj → p.cls[i]? = some (.h ts) → p.cls[j]? = some (.h us) → oi.dst = some d → oj.dst = some e → idOf (ρf d) = some id → idOf (ρf e) = some id → i = j
section
variable {E : Env} {L : Lim} {cf : CallF} {ops : Array Oper} {p : Plan} {K N : Nat} {ρ0 ρf : Nat → AV} {σ : Nat → Sto}
theorem Reg.pre_lt (R : Reg E L cf ops p K N ρ0 ρf σ) : ∀ i o j, ops[i]? = some o → j ∈ preOf p i → j < i := by
  intro i
  induction i using Nat.strongRecOn with
  | ind i ih =>
    intro o j ho hj
    obtain ⟨e, he, hb, h⟩ := R.pre i o j ho hj
    have hlt := R.edge i o e ho he hb
    grind
def Down (ops : Array Oper) (D : Nat → Prop) : Prop := ∀ (i : Nat) o e, ops[i]? = some o → D i → e ∈ o.after → Region.binds .any e = true → D e.on
theorem Reg.pre_in (R : Reg E L cf ops p K N ρ0 ρf σ) {D : Nat → Prop} (hD : Down ops D) : ∀ i o j, ops[i]? = some o → (∀ e ∈ o.after, Region.binds .any e = true → D e.on) → j ∈ preOf p i → D j := by
  intro i
  induction i using Nat.strongRecOn with
  | ind i ih =>
    intro o j ho hr hj
    obtain ⟨e, he, hb, h⟩ := R.pre i o j ho hj
    have hlt := R.edge i o e ho he hb
    have hde := hr e he hb
    rcases h with rfl | h
    · omega
    · obtain ⟨oe, hoe⟩ : ∃ oe, ops[e.on]? = some oe := ⟨ops[e.on]'(by grind), by simp⟩
      exact ih e.on hlt oe j hoe (fun e' he' hb' => hD e.on oe e' hoe hde he' hb') h
theorem Reg.pre_of (R : Reg E L cf ops p K N ρ0 ρf σ) {D : Nat → Prop} (hD : Down ops D) {i j : Nat} {o : Oper} (ho : ops[i]? = some o) (hi : D i) (hj : j ∈ preOf p i) : D j :=
  R.pre_in hD i o j ho (fun e he hb => hD i o e ho hi he hb) hj
open Classical in
noncomputable def rho (ops : Array Oper) (ρ0 ρf : Nat → AV) (D : Nat → Prop) (t : Nat) : AV := if ∃ (i : Nat) (o : Oper), ops[i]? = some o ∧ o.dst = some t ∧ D i then ρf t else ρ0 t
theorem rho_in {D : Nat → Prop} {t i : Nat} {o : Oper} (ho : ops[i]? = some o) (hd : o.dst = some t) (hi : D i) : rho ops ρ0 ρf D t = ρf t := if_pos ⟨i, o, ho, hd, hi⟩
theorem rho_out {D : Nat → Prop} {t : Nat} (h : ∀ (i : Nat) (o : Oper), ops[i]? = some o → o.dst = some t → ¬ D i) : rho ops ρ0 ρf D t = ρ0 t := if_neg (fun ⟨i, o, ho, hd, hi⟩ => h i o ho hd hi)
theorem Reg.rho_none (R : Reg E L cf ops p K N ρ0 ρf σ) {D : Nat → Prop} {t : Nat} (h : ∀ (i : Nat) (o : Oper), ops[i]? = some o → o.dst ≠ some t) : rho ops ρ0 ρf D t = ρf t := by
  rw [rho_out (fun i o ho hd => absurd hd (h i o ho)), R.out t h]
theorem Reg.agree (R : Reg E L cf ops p K N ρ0 ρf σ) {D : Nat → Prop} (hD : Down ops D) {i : Nat} {o : Oper} (ho : ops[i]? = some o) (hn : ¬ D i) (hr : ∀ e ∈ o.after, Region.binds .any e = true → D e.on) :
    ∀ t ∈ guardRead ops o ++ opReads o, rho ops ρ0 ρf D t = envAt p.war ρ0 ρf i t := by
  intro t ht
  unfold envAt
  by_cases hw : ∃ (j : Nat) (oj : Oper), ops[j]? = some oj ∧ oj.dst = some t
  · obtain ⟨j, oj, hoj, hdj⟩ := hw
    rcases R.read i j o oj t ho hoj hdj ht with ⟨h1, h2⟩ | ⟨h1, h2⟩
    · rw [h1, cond_true]
      refine rho_out fun k ok hok hdk hDk => ?_
      have : k = j := R.dst k j ok oj t hok hoj hdk hdj
      subst this
      rcases h2 with rfl | h2
      · grind
      · exact hn (R.pre_of hD hok hDk h2)
    · rw [h1, cond_false]
      exact rho_in hoj hdj (R.pre_in hD i o j ho hr h2)
  · have hno : ∀ (j : Nat) (oj : Oper), ops[j]? = some oj → oj.dst ≠ some t := fun j oj hoj hdj => hw ⟨j, oj, hoj, hdj⟩
    rw [R.rho_none hno]
    cases has (warOf p.war i) t with
    | true => rw [cond_true, R.out t hno]
    | false => rfl
end
end Go.Tel
/-
  A region with a drawn order: the state after any set of its operations, and one operation more.
-/
namespace Go.Tel
def Open (P : Program) (q : AV) (X : Prop) (kf : Fuse) (Dj : Prop) (a : Act) (g : Ghost) (w wv : World) : Prop :=
  ∃ (b cap len : Nat) (vz : List Value) (e : TypeId) (fz : Nat × Nat) (xv : Value) (kk : IntKind) (elem : TypeId) (ti : TypeInfo),
    P.underlying kf.t = some (.slice elem) ∧ P.info? elem = some ti ∧ kf.te = elem ∧
    a.eval (.tmp kf.d) = .slice (some ⟨b, 0, none⟩) (len + 1) cap ∧ a.eval kf.ix = .int kk (len : Int) ∧ a.eval kf.v = xv ∧ xv.cells.size = ti.size ∧ (∀ u ∈ xv.cells.toList, u.oneCell' = true) ∧
    wv.heap[b]? = some (.cells ⟨setV vz (len * ti.size) xv.cells.toList⟩ e fz) ∧ w = putRowB wv b vz e fz ∧ (len * ti.size + ti.size ≤ vz.length ∧ fz.2 ≤ len * ti.size) ∧ ((∃ k l, g.tok k = some l ∧ l.b = b) ∨ ∃ id0 off n sz, q = .ref id0 off n sz ∧ g.blk id0 = some b ∧ X) ∧
    (Dj → a.eval (.tmp kf.p) = .pointer (some ⟨b, len * ti.size, none⟩))
def Shut (ops : Array Oper) (p : Plan) (D : Nat → Prop) (i : Nat) : Prop := ∀ (i' : Nat) o' r' (j' x' : Nat), ops[i']? = some o' → p.cls[i']? = some (.fa r' j' x') → D i' → i' ≠ i → D x'
def Window (E : Env) (L : Lim) (ρf : Nat → AV) (ops : Array Oper) (p : Plan) (D : Nat → Prop) (a : Act) (g : Ghost) (w wv : World) : Prop :=
  (w = wv ∧ ∀ i, Shut ops p D i) ∨
  ∃ (i : Nat) (o : Oper) (r j x : Nat) (o1 o2 : Oper) (kf : Fuse), ops[i]? = some o ∧ p.cls[i]? = some (.fa r j x) ∧ ops[j]? = some o1 ∧ ops[x]? = some o2 ∧ fused o o1 o2 = some kf ∧ D i ∧ ¬ D x ∧
    Shut ops p D i ∧ Open E.P (ρf kf.d) (muFa E L ops i j x = true) kf (D j) a g w wv
structure Core (E : Env) (L : Lim) (ops : Array Oper) (p : Plan) (K N : Nat) (ρ0 ρf : Nat → AV) (σ : Nat → Sto) (ds : List Deferred) (g0 : Ghost) (w0 : World) (D : Nat → Prop) (a : Act) (k : Nat) (g : Ghost) (wv : World) : Prop where
  kK : k ≤ K
  time : ∀ (i : Nat) o r, ops[i]? = some o → rank p i = some r → (D i ↔ r < k)
  size : a.tmps.size = N
  defers : a.defers = ds
  ext : Ext L g0 w0 g wv
  inv : Inv E g wv (σ k)
  tmps : ∀ t, V g wv (rho ops ρ0 ρf D t) (a.tmps.getD t undef)
  pend : ∀ (i : Nat) o ts d id, ops[i]? = some o → p.cls[i]? = some (.h ts) → o.dst = some d → idOf (ρf d) = some id → ¬ D i → g.pend id
def J (E : Env) (L : Lim) (ops : Array Oper) (p : Plan) (K N : Nat) (ρ0 ρf : Nat → AV) (σ : Nat → Sto) (ds : List Deferred) (g0 : Ghost) (w0 : World) (D : Nat → Prop) (a : Act) (w : World) : Prop :=
  ∃ k g wv, Core E L ops p K N ρ0 ρf σ ds g0 w0 D a k g wv ∧ Window E L ρf ops p D a g w wv
theorem put_size (a : Act) (d : Option Tmp) (v : Value) : (a.put d v).tmps.size = a.tmps.size := by cases d <;> simp [Act.put]
theorem put_defers (a : Act) (d : Option Tmp) (v : Value) : (a.put d v).defers = a.defers := by cases d <;> rfl
theorem put_same {a : Act} {d : Nat} {v : Value} (h : d < a.tmps.size) : (a.put (some d) v).tmps.getD d undef = v := by simp [Act.put, h]
theorem put_other {a : Act} {d : Option Tmp} {v : Value} {t : Nat} (h : d ≠ some t) : (a.put d v).tmps.getD t undef = a.tmps.getD t undef := by
  cases d with
  | none => rfl
  | some d =>
    simp_all[Act.put]
section
variable {E : Env} {L : Lim} {cf : CallF} {ops : Array Oper} {p : Plan} {K N : Nat} {ρ0 ρf : Nat → AV} {σ : Nat → Sto} {ds : List Deferred} {g0 : Ghost} {w0 : World}
theorem Core.push (R : Reg E L cf ops p K N ρ0 ρf σ) {D : Nat → Prop} {a : Act} {k k' : Nat} {g g' : Ghost} {wv wv' : World} (h : Core E L ops p K N ρ0 ρf σ ds g0 w0 D a k g wv) {m : Nat} {om : Oper} (hm : ops[m]? = some om)
    (hk : (rank p m = none ∧ k' = k) ∨ (rank p m = some k ∧ k' = k + 1)) (hext : Ext L g0 w0 g' wv') (hmono : ∀ x u, V g wv x u → V g' wv' x u) (hinv : Inv E g' wv' (σ k')) {v' : Value}
    (hv : ∀ d, om.dst = some d → V g' wv' (ρf d) v')
    (hpend : ∀ (i : Nat) o ts d id, ops[i]? = some o → p.cls[i]? = some (.h ts) → o.dst = some d → idOf (ρf d) = some id → ¬ D i → i ≠ m → g'.pend id) :
    Core E L ops p K N ρ0 ρf σ ds g0 w0 (fun i => D i ∨ i = m) (a.put om.dst v') k' g' wv' where
  kK := by
    rcases hk with ⟨_, rfl⟩ | ⟨h1, rfl⟩
    · exact h.kK
    · exact R.rkLt m om k hm h1
  time := fun i o r ho hr => by
    have ht := h.time i o r ho hr
    rcases hk with ⟨h1, rfl⟩ | ⟨h1, rfl⟩
    · grind
    · by_cases hi : i = m
      · grind
      · have : r ≠ k := fun e => hi (R.rkInj i m o om r ho hm hr (e ▸ h1))
        grind
  size := by rw [put_size]; exact h.size
  defers := by rw [put_defers]; exact h.defers
  ext := hext
  inv := hinv
  tmps := fun t => by
    by_cases ht : om.dst = some t
    · rw [rho_in hm ht (.inr rfl), ht, put_same (by rw [h.size]; exact R.dstN m om t hm ht)]
      grind
    · rw [put_other ht]
      have : rho ops ρ0 ρf (fun i => D i ∨ i = m) t = rho ops ρ0 ρf D t := by
        by_cases hx : ∃ (i : Nat) (o : Oper), ops[i]? = some o ∧ o.dst = some t ∧ D i
        all_goals grind[rho_in,rho_out]
      rw [this]
      exact hmono _ _ (h.tmps t)
  pend := fun i o ts d id ho hc hd hid hn => hpend i o ts d id ho hc hd hid (fun x => hn (.inl x)) (fun x => hn (.inr x))
theorem Core.now (R : Reg E L cf ops p K N ρ0 ρf σ) {D : Nat → Prop} {a : Act} {k : Nat} {g : Ghost} {wv : World} (h : Core E L ops p K N ρ0 ρf σ ds g0 w0 D a k g wv) (hD : Down ops D) {m r : Nat} {om : Oper} (hm : ops[m]? = some om) (hn : ¬ D m)
    (hr : ∀ e ∈ om.after, Region.binds .any e = true → D e.on) (hrk : rank p m = some r) : r = k := by
  have h1 : k ≤ r := by
    rcases Nat.lt_or_ge r k with x | x
    · exact absurd ((h.time m om r hm hrk).2 x) hn
    omega
  rcases Nat.lt_or_ge k r with x | x
  · obtain ⟨i, o, ho, hi⟩ := R.rkEx k (by have := R.rkLt m om r hm hrk; omega)
    have := (h.time i o k ho hi).1 (R.pre_in hD m om i hm hr (R.rk i m o om k r ho hm hi hrk x))
    omega
  omega
theorem Core.tried (R : Reg E L cf ops p K N ρ0 ρf σ) {D : Nat → Prop} {a : Act} {k : Nat} {g : Ghost} {wv : World} (h : Core E L ops p K N ρ0 ρf σ ds g0 w0 D a k g wv) (hD : Down ops D) {m : Nat} {om : Oper} {ts : List Nat} (hm : ops[m]? = some om) (hn : ¬ D m)
    (hr : ∀ e ∈ om.after, Region.binds .any e = true → D e.on) (hc : p.cls[m]? = some (.q ts) ∨ p.cls[m]? = some (.h ts)) : k ∈ ts := by
  rcases Classical.em (k ∈ ts) with x | x
  · exact x
  · obtain ⟨j, oj, r, hoj, hrk, h1 | h1⟩ := R.time m om ts hm hc k h.kK x
    · have := (h.time j oj r hoj hrk).1 (R.pre_in hD m om j hm hr h1.1)
      omega
    · exact absurd (R.pre_of hD hoj ((h.time j oj r hoj hrk).2 h1.2) h1.1) hn
theorem Shut.more {D : Nat → Prop} {m i : Nat} {om : Oper} (hm : ops[m]? = some om) (hnf : ∀ r j x, p.cls[m]? ≠ some (.fa r j x)) (h : Shut ops p D i) : Shut ops p (fun i => D i ∨ i = m) i := by
  intro i' o' r' j' x' ho hc hi hne
  rcases hi with hi | rfl
  · exact .inl (h i' o' r' j' x' ho hc hi hne)
  grind
end
end Go.Tel
/-
  A region with a drawn order: one operation more while nothing is open.
-/
namespace Go.Tel
theorem wpOp_yes {rd : Option Nat} {P : Program} {ops : Array Oper} {Q : Exit → Act → World → Prop} {m : Nat} {om : Oper} {K : Act → World → Prop} {a : Act} {w : World} (hm : ops[m]? = some om)
    (hw : Region.wanted om (yielded ops a.tmps) = true) (h : om.wpIn (FW rd) 0 P a w K Q) : wpOpIn (FW rd) 0 P ops Q m K a w := by grind[wpOpIn]
theorem wpOp_no {rd : Option Nat} {P : Program} {ops : Array Oper} {Q : Exit → Act → World → Prop} {m : Nat} {om : Oper} {K : Act → World → Prop} {a : Act} {w : World} (hm : ops[m]? = some om)
    (hw : Region.wanted om (yielded ops a.tmps) = false) (h : K (a.put om.dst undef) w) : wpOpIn (FW rd) 0 P ops Q m K a w := by
  simp only [wpOpIn, hm, hw, Bool.false_eq_true, if_false]
  exact ⟨fun _ _ => trivial, h⟩
theorem wpOp_bare {rd : Option Nat} {P : Program} {ops : Array Oper} {Q : Exit → Act → World → Prop} {m : Nat} {om : Oper} {K : Act → World → Prop} {a : Act} {w w' : World} {v : Value} (hm : ops[m]? = some om)
    (hg : om.guard = none) (hr : (execOp a.eval om).run P w = .ok (.value v) w') (h : K (a.put om.dst v) w') : wpOpIn (FW rd) 0 P ops Q m K a w :=
  wpOp_yes hm (by grind[Region.wanted]) (wpIn_of_run hr h)
theorem quietA_actA {E : Env} {L : Lim} {cf : CallF} {ρ : Nat → AV} {s : Sto} {o : Oper} {v : AV} (h : quietA E L ρ s o = some v) : actA E L cf ρ s o = some (v, s) := by grind[quietA_opA,actA_eq,actO,opA]
theorem fused_inv {o o1 o2 : Oper} {kf : Fuse} (h : fused o o1 o2 = some kf) :
    o.op = .call { callee := .builtin .append, args := #[kf.x, kf.y], argTypes := #[kf.t, kf.t] } ∧ o.dst = some kf.d ∧ o1.op = .indexAddr kf.t (.tmp kf.d) kf.ix ∧ o1.dst = some kf.p ∧
    o2.op = .store kf.te (.tmp kf.p) kf.v ∧ o2.dst = none ∧ kf.d ≠ kf.p ∧ (o.guard = none ∧ o1.guard = none ∧ o2.guard = none) ∧ kf.ix ≠ .tmp kf.d ∧ kf.v ≠ .tmp kf.d ∧ kf.v ≠ .tmp kf.p := by
  unfold fused at h
  split at h
  · rename_i args ts d t1 d1 ix p te p1 v ho hd ho1 hd1 ho2 hd2
    split at h
    · rename_i x y t t' ha ht
      split at h
      · rename_i hc
        obtain ⟨rfl, rfl, rfl, rfl, hne, g1, g2, g3, h1, h2, h3, _⟩ := hc
        simp at h
        subst h
        have ha' : args = #[x, y] := by rw [← Array.toArray_toList (xs := args), ha]
        have ht' : ts = #[t', t'] := by rw [← Array.toArray_toList (xs := ts), ht]
        subst ha' ht'
        have hn : ∀ (z : Operand) (q : Nat), isTmp z q = false → z ≠ .tmp q := fun z q hz e => by simp_all[isTmp]
        simp_all
      grind
    grind
  grind
theorem fused_apart {o o1 o2 : Oper} {kf : Fuse} (h : fused o o1 o2 = some kf) : ∀ z, z = kf.x ∨ z = kf.y ∨ z = kf.ix ∨ z = kf.v → z ≠ .tmp kf.d ∧ z ≠ .tmp kf.p := by
  unfold fused at h
  split at h
  · split at h
    · split at h
      · rename_i hc
        obtain ⟨rfl, rfl, rfl, rfl, hne, g1, g2, g3, h1, h2, h3, h4, h5, h6, h7, h8⟩ := hc
        simp at h
        subst h
        have hn : ∀ (z : Operand) (q : Nat), isTmp z q = false → z ≠ .tmp q := fun z q hz e => by simp_all[isTmp]
        grind
      grind
    grind
  grind
theorem eval_put_ne {a : Act} {d : Option Tmp} {v : Value} {z : Operand} (h : ∀ t, z = .tmp t → d ≠ some t) : (a.put d v).eval z = a.eval z := by
  cases z with
  | tmp t => exact put_other (h t rfl)
  | const c => rfl
  | global g => rfl
  | func f => rfl
section
variable {rd : Option Nat} {E : Env} {L : Lim} {cf : CallF} {ops : Array Oper} {p : Plan} {K N : Nat} {ρ0 ρf : Nat → AV} {σ : Nat → Sto} {ds : List Deferred} {g0 : Ghost} {w0 : World} {Q : Exit → Act → World → Prop}
theorem rank_w {m r : Nat} (h : p.cls[m]? = some (.w r)) : rank p m = some r := by grind[rank,clsRank]
theorem rank_fa {m r j x : Nat} (h : p.cls[m]? = some (.fa r j x)) : rank p m = some r := by grind[rank,clsRank]
theorem rank_q {m : Nat} {ts : List Nat} (h : p.cls[m]? = some (.q ts)) : rank p m = none := by grind[rank,clsRank]
theorem rank_h {m : Nat} {ts : List Nat} (h : p.cls[m]? = some (.h ts)) : rank p m = none := by grind[rank,clsRank]
theorem rank_fj {m : Nat} (h : p.cls[m]? = some .fj) : rank p m = none := by grind[rank,clsRank]
theorem rank_fx {m : Nat} (h : p.cls[m]? = some .fx) : rank p m = none := by grind[rank,clsRank]
theorem Reg.agreeF (R : Reg E L cf ops p K N ρ0 ρf σ) {D : Nat → Prop} (hD : Down ops D) {m r j x : Nat} {om : Oper} (hm : ops[m]? = some om) (hc : p.cls[m]? = some (.fa r j x)) (hr : ∀ e ∈ om.after, Region.binds .any e = true → D e.on)
    {o1 o2 : Oper} {kf : Fuse} (h1 : ops[j]? = some o1) (h2 : ops[x]? = some o2) (hf : fused om o1 o2 = some kf) (w1 : warOf p.war m = []) (w2 : warOf p.war j = []) :
    ∀ z, z = kf.x ∨ z = kf.y ∨ z = kf.ix ∨ z = kf.v → evalO ρf z = evalO (rho ops ρ0 ρf D) z := by
  obtain ⟨f1, f2, f3, f4, f5, f6, f7, f8, f9, f10, f11⟩ := fused_inv hf
  intro z hz
  refine evalO_congr fun t ht => ?_
  subst ht
  by_cases hw : ∃ (i : Nat) (o : Oper), ops[i]? = some o ∧ o.dst = some t
  · obtain ⟨i, oi, hoi, hdi⟩ := hw
    have hpre : i ∈ preOf p m := by
      by_cases hxy : Operand.tmp t = kf.x ∨ Operand.tmp t = kf.y
      · have : t ∈ opReads om := mem_opReads.2 (by grind[Op.operands,Call.operands])
        rcases R.read m i om oi t hm hoi hdi (List.mem_append_right _ this) with ⟨q1, _⟩ | ⟨_, q2⟩
        all_goals grind[has]
      · have hiv : Operand.tmp t = kf.ix ∨ Operand.tmp t = kf.v := by grind
        by_cases e1 : i = m
        · grind
        by_cases e2 : i = j
        · subst e2
          rw [h1] at hoi; simp at hoi; subst hoi
          rw [f4] at hdi; simp at hdi; subst hdi
          rcases hiv with e | e
          · have : kf.p ∈ opReads o1 := mem_opReads.2 (by grind[Op.operands])
            rcases R.read i i o1 o1 kf.p h1 h1 f4 (List.mem_append_right _ this) with ⟨q1, _⟩ | ⟨_, q2⟩
            · grind[has]
            · exact absurd (R.pre_lt i o1 i h1 q2) (Nat.lt_irrefl _)
          grind
        by_cases e3 : i = x
        · grind
        refine (R.win m om r j x hm hc i oi hoi e1 e2 e3).2 t hdi ?_
        grind[readsAt,mem_opReads,Op.operands]
    exact (rho_in hoi hdi (R.pre_in hD m om i hm hr hpre)).symm
  · exact (R.rho_none fun i o ho hd => hw ⟨i, o, ho, hd⟩).symm
theorem step_closed (R : Reg E L cf ops p K N ρ0 ρf σ) (hcf : CallOk E L cf) {D : Nat → Prop} (hD : Down ops D) {a : Act} {k : Nat} {g : Ghost} {w : World} (h : Core E L ops p K N ρ0 ρf σ ds g0 w0 D a k g w) (hsh : ∀ i, Shut ops p D i)
    (hnp : ∀ (i : Nat) o ts d id, ops[i]? = some o → p.cls[i]? = some (.h ts) → o.dst = some d → idOf (ρf d) = some id → ¬ g0.pend id)
    {m : Nat} {om : Oper} (hm : ops[m]? = some om) (hn : ¬ D m) (hr : ∀ e ∈ om.after, Region.binds .any e = true → D e.on) :
    wpOpIn (FW rd) 0 E.P ops Q m (J E L ops p K N ρ0 ρf σ ds g0 w0 (fun i => D i ∨ i = m)) a w := by
  have hag := R.agree hD hm hn hr
  obtain ⟨c, hc⟩ := R.cls m om hm
  have hshut : (∀ r j x, p.cls[m]? ≠ some (.fa r j x)) → ∀ i, Shut ops p (fun i => D i ∨ i = m) i := fun hnf i => Shut.more hm hnf (hsh i)
  have pendKeep : ∀ (g' : Ghost), (∀ id, g.pend id → g'.pend id) → ∀ (i : Nat) o ts d id, ops[i]? = some o → p.cls[i]? = some (.h ts) → o.dst = some d → idOf (ρf d) = some id → ¬ D i → i ≠ m → g'.pend id :=
    fun g' hg i o ts d id ho hci hd hid hnD _ => hg id (h.pend i o ts d id ho hci hd hid hnD)
  cases c with
  | w r =>
    have hk := h.now R hD hm hn hr (rank_w hc)
    subst hk
    obtain ⟨v, hact, hv⟩ := R.wF m om r hm hc
    rw [← actG_congr hag] at hact
    unfold actG at hact
    have hs := hshut (fun _ _ _ e => by grind)
    split at hact
    · rename_i hg
      refine wpOp_yes hm (guardOk_sound h.tmps hg) (actA_sound hcf h.inv h.tmps hact fun v' w' g' hV hE hI => ?_)
      exact ⟨r + 1, g', w', h.push R hm (.inr ⟨rank_w hc, rfl⟩) (h.ext.trans hE) (fun _ _ q => q.mono hE) hI (fun d hd => by grind) (pendKeep g' hE.pend), .inl ⟨rfl, hs⟩⟩
    · rename_i hg
      simp only [Option.some.injEq, Prod.mk.injEq] at hact
      obtain ⟨rfl, hst⟩ := hact
      refine wpOp_no hm (guardOk_sound h.tmps hg) ?_
      exact ⟨r + 1, g, w, h.push R hm (.inr ⟨rank_w hc, rfl⟩) h.ext (fun _ _ q => q) (hst ▸ h.inv) (fun d hd => by grind[V.undef]) (pendKeep g fun _ q => q), .inl ⟨rfl, hs⟩⟩
    grind
  | q ts =>
    obtain ⟨v, hq, hv⟩ := R.qF m om ts k hm hc (h.tried R hD hm hn hr (.inl hc))
    rw [← quietG_congr hag] at hq
    unfold quietG at hq
    have hs := hshut (fun _ _ _ e => by grind)
    split at hq
    · rename_i hg
      refine wpOp_yes hm (guardOk_sound h.tmps hg) (actA_sound hcf h.inv h.tmps (quietA_actA hq) fun v' w' g' hV hE hI => ?_)
      exact ⟨k, g', w', h.push R hm (.inl ⟨rank_q hc, rfl⟩) (h.ext.trans hE) (fun _ _ q => q.mono hE) hI (fun d hd => by grind) (pendKeep g' hE.pend), .inl ⟨rfl, hs⟩⟩
    · rename_i hg
      simp only [Option.some.injEq] at hq
      subst hq
      refine wpOp_no hm (guardOk_sound h.tmps hg) ?_
      exact ⟨k, g, w, h.push R hm (.inl ⟨rank_q hc, rfl⟩) h.ext (fun _ _ q => q) h.inv (fun d hd => by grind[V.undef]) (pendKeep g fun _ q => q), .inl ⟨rfl, hs⟩⟩
    grind
  | h ts =>
    obtain ⟨hg, d, cs, mk, id, hd, hh, hmk, hat⟩ := R.hF m om ts hm hc
    have hcs := hat k (h.tried R hD hm hn hr (.inr hc))
    rw [← hcells_congr (fun t ht => hag t (List.mem_append_right _ ht))] at hh
    obtain ⟨vs, e, mv, hrun, hvl, hV, hid⟩ := hcells_sound h.tmps hh
    have hpid : g.pend id := h.pend m om ts d id hm hc hd (by grind) hn
    obtain ⟨p1, p2, p3⟩ := h.inv.pendN id hpid
    obtain ⟨e2, i2⟩ := h.inv.fill (L := L) (id := id) (q := fun i => g.pend i ∧ i ≠ id) (cs := cs) (vs := vs) (fun _ => Iff.rfl) e p1 p2 p3 (fun b hb => (h.inv.mpX id b hb).2.2 hpid) hcs hvl.full.1 hvl.full.2
    have e1 : Ext L g0 w0 (g.withPend fun i => g.pend i ∧ i ≠ id) w := h.ext.withPend fun i hi => ⟨h.ext.pend i hi, fun q => hnp m om ts d id hm hc hd (by grind) (q ▸ hi)⟩
    refine wpOp_bare hm hg hrun ⟨k, _, _, h.push R hm (.inl ⟨rank_h hc, rfl⟩) (e1.trans e2) (fun _ _ q => q.withPend.mono e2) i2 (fun d' hd' => ?_) ?_, .inl ⟨rfl, hshut (fun _ _ _ e => by grind)⟩⟩
    · rw [hd] at hd'; simp at hd'; subst hd'
      rw [hmk]
      exact hV _ _ id w.heap.size (by simp [Ghost.addB]) (shape_of_heap (by rw [heap_pushW]; exact if_pos rfl))
    · intro i o ts' d' id' ho hci hdi hidi hnD hne
      refine ⟨h.pend i o ts' d' id' ho hci hdi hidi hnD, fun q => hne ?_⟩
      subst q
      exact R.hInj i m o om ts' ts d' d id' ho hm hci hc hdi hd hidi (by grind)
  | fa r j x =>
    have hk := h.now R hD hm hn hr (rank_fa hc)
    subst hk
    obtain ⟨o1, o2, kf, h1, h2, c1, c2, hf, w1, w2, w3, p1, p2, p3, v, hfu, hvd, hvp⟩ := R.fuse m om r j x hm hc
    have hag2 := R.agreeF hD hm hc hr h1 h2 hf w1 w2
    obtain ⟨f1, f2, f3, f4, f5, f6, f7, f8, f9, f10, f11⟩ := fused_inv hf
    have hVx := evalO_sound h.tmps kf.x
    have hVy := evalO_sound h.tmps kf.y
    have hVi := evalO_sound h.tmps kf.ix
    have hVv := evalO_sound h.tmps kf.v
    rw [← hag2 _ (.inl rfl)] at hVx
    rw [← hag2 _ (.inr (.inl rfl))] at hVy
    rw [← hag2 _ (.inr (.inr (.inl rfl)))] at hVi
    rw [← hag2 _ (.inr (.inr (.inr rfl)))] at hVv
    cases hfa : fuseA E L ρf (σ r) kf with
    | some res =>
      have hfu : fuseA E L ρf (σ r) kf = some (v, σ (r + 1)) := by grind[fuseX]
      unfold fuseA at hfu
      split at hfu
      · rename_i elem hu
        split at hfu
        · rename_i hmu
          split at hfu
          · rename_i ti rows z n row hti hrows hz hnn hrow
            split at hfu
            · rename_i hcnd
              obtain ⟨q1, q2, q3, q4, q5, q6, q7⟩ := hcnd
              have hvl := cellsOf_sound hVv q4
              obtain ⟨t1, t2⟩ := toPVs_sound hvl hrow
              obtain ⟨b, cap, vz, e, fz, w1', wv', g', a1, a2, a3, a4, a5, a6, a7, a8⟩ := appendRow_open (T := om.type) h.inv hu hti q6 q7 hVx hrows hVy hz q2 q5 (us := (a.eval kf.v).cells.toList) (by omega) q3 t2 hfu
              obtain ⟨kk, hix⟩ := natOfA_sound hVi hnn
              have hrun : (execOp a.eval om).run E.P w = .ok (.value (.slice (some ⟨b, 0, none⟩) (rows.length + 1) cap)) w1' := by simp[*,execOp,resolve,invoke,builtin]
              have hnj : ¬ (D j ∨ j = m) := fun q => q.elim (fun q => hn (R.pre_of hD h1 q p1)) (fun q => by grind)
              have hnx : ¬ (D x ∨ x = m) := fun q => q.elim (fun q => hn (R.pre_of hD h2 q p3)) (fun q => by grind)
              refine wpOp_bare hm f8.1 hrun ⟨r + 1, g', wv', h.push R hm (.inr ⟨rank_fa hc, rfl⟩) (h.ext.trans a3) (fun _ _ q => q.mono a3) a4 (fun d hd => ?_) (pendKeep g' a3.pend), .inr ?_⟩
              · grind
              · refine ⟨m, om, r, j, x, o1, o2, kf, hm, hc, h1, h2, hf, .inr rfl, hnx, ?_, b, cap, rows.length, vz, e, fz, a.eval kf.v, kk, elem, ti, hu, hti, hmu.2, ?_, ?_, ?_, ?_, ?_, a5, a6, ?_, .inl a8, fun q => absurd q hnj⟩
                · intro i' o' r' j' x' ho' hc' hi' hne
                  rcases hi' with hi' | hi'
                  · exact .inl (hsh m i' o' r' j' x' ho' hc' hi' hne)
                  omega
                · rw [f2]; exact put_same (by rw [h.size]; exact R.dstN m om kf.d hm f2)
                · grind[eval_put_ne]
                all_goals grind[eval_put_ne,VL.one]
            grind
          grind
        grind
      grind
    | none =>
      unfold fuseX at hfu
      rw [hfa] at hfu
      simp only at hfu
      unfold fuseM at hfu
      split at hfu
      · rename_i elem hu
        split at hfu
        · rename_i hmu
          split at hfu
          · rename_i ti id off len sz n hti hxe hnn
            split at hfu
            · rename_i zs old hzs hold
              split at hfu
              · rename_i hcnd
                obtain ⟨q1, q2, q3, q4, q5, q6, q7, rfl, rfl, q8, q9, q10, q11, q12⟩ := hcnd
                simp only [Option.some.injEq, Prod.mk.injEq] at hfu
                obtain ⟨hfv, hfs⟩ := hfu
                have hvl := cellsOf_sound hVv q4
                rw [hxe] at hVx
                obtain ⟨b, cap, vz, e, fz, w1', wv', g', a1, a2, a3, a4, a5, a6, a7, a8⟩ := fuseM_open (L := L) (T := om.type) h.inv hu hti q6 q7 hVx hVy hzs q2 q5 hold q8 q9 q10 q11 q12 (us := (a.eval kf.v).cells.toList) (by rw [← hvl.len]; omega) hvl
                rw [hfs] at a4
                obtain ⟨kk, hix⟩ := natOfA_sound hVi hnn
                have hrun : (execOp a.eval om).run E.P w = .ok (.value (.slice (some ⟨b, 0, none⟩) (len + 1) cap)) w1' := by simp[*,execOp,resolve,invoke,builtin]
                have hnj : ¬ (D j ∨ j = m) := fun q => q.elim (fun q => hn (R.pre_of hD h1 q p1)) (fun q => by grind)
                have hnx : ¬ (D x ∨ x = m) := fun q => q.elim (fun q => hn (R.pre_of hD h2 q p3)) (fun q => by grind)
                refine wpOp_bare hm f8.1 hrun ⟨r + 1, g', wv', h.push R hm (.inr ⟨rank_fa hc, rfl⟩) (h.ext.trans a3) (fun _ _ q => q.mono a3) a4 (fun d hd => ?_) (pendKeep g' a3.pend), .inr ?_⟩
                · grind
                · refine ⟨m, om, r, j, x, o1, o2, kf, hm, hc, h1, h2, hf, .inr rfl, hnx, ?_, b, cap, len, vz, e, fz, a.eval kf.v, kk, elem, ti, hu, hti, hmu.2, ?_, ?_, ?_, ?_, ?_, a5, a6, ?_, .inr ⟨_, _, _, _, by rw [hvd]; exact hfv.symm, a8, by grind[muFa]⟩, fun q => absurd q hnj⟩
                  · intro i' o' r' j' x' ho' hc' hi' hne
                    rcases hi' with hi' | hi'
                    · exact .inl (hsh m i' o' r' j' x' ho' hc' hi' hne)
                    omega
                  · rw [f2]; exact put_same (by rw [h.size]; exact R.dstN m om kf.d hm f2)
                  · grind[eval_put_ne]
                  · grind[eval_put_ne]
                  · rw [← Array.length_toList, ← hvl.len]; omega
                  · grind[VL.one]
                  · have := a7; rw [← hvl.len, q3] at this; omega
              grind
            grind
          grind
        grind
      grind
  | fj =>
    obtain ⟨i, o, r, x, ho, hci⟩ := R.fjEx m om hm hc
    obtain ⟨o1, o2, kf, h1, h2, c1, c2, hf, w1, w2, w3, p1, p2, p3, _⟩ := R.fuse i o r m x ho hci
    have hDi := R.pre_in hD m om i hm hr p1
    have hDx := hsh m i o r m x ho hci hDi (fun e => by grind)
    exact absurd (R.pre_of hD h2 hDx p2) hn
  | fx =>
    obtain ⟨i, o, r, j, ho, hci⟩ := R.fxEx m om hm hc
    obtain ⟨o1, o2, kf, h1, h2, c1, c2, hf, w1, w2, w3, p1, p2, p3, _⟩ := R.fuse i o r j m ho hci
    have hDi := R.pre_in hD m om i hm hr p3
    exact absurd (hsh m i o r j m ho hci hDi (fun e => by grind)) hn
end
end Go.Tel
