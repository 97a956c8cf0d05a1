/-
  A row that is appended as zero and then written: the world meanwhile.
-/
import Derived.Test.YtedmfigcajdkbaaGreatDoorTelQ
namespace Go.Tel

theorem setV_any (us : List Value) : ∀ (vs vs' : List Value) (k : Nat), vs.length = vs'.length → (∀ q, (q < k ∨ k + us.length ≤ q) → vs[q]? = vs'[q]?) → setV vs k us = setV vs' k us := by
  induction us with
  | nil => intro vs vs' k hl h; simp only [setV]; exact List.ext_getElem? fun q => h q (by simp; omega)
  | cons u us ih =>
    intro vs vs' k hl h
    simp only [setV]
    refine ih _ _ _ (by simpa using hl) fun q hq => ?_
    rw [List.getElem?_set, List.getElem?_set, hl]
    split
    · rfl
    · exact h q (by simp; omega)

theorem setV_setV (us zs : List Value) (h : zs.length = us.length) (vs : List Value) (k : Nat) : setV (setV vs k zs) k us = setV vs k us :=
  setV_any us _ _ k (setV_length _ _ _) fun _ hq => setV_get _ _ _ _ (by omega)

theorem setV_pre (us : List Value) : ∀ (os r : List Value), r.length = us.length → ∀ rest, setV (os ++ r ++ rest) os.length us = os ++ us ++ rest := by
  intro os r hr rest
  apply List.ext_getElem?
  intro q
  rcases Nat.lt_or_ge q os.length with a | a
  · rw [setV_get _ _ _ _ (.inl a)]
    simp [List.getElem?_append, a]
  · rcases Nat.lt_or_ge q (os.length + us.length) with b | b
    · obtain ⟨j, rfl⟩ : ∃ j, q = os.length + j := ⟨q - os.length, by omega⟩
      have hj : j < us.length := by omega
      rw [setV_get_in us _ os.length j us[j] (by simp [hj]) (by simp; omega)]
      rw [List.append_assoc, List.getElem?_append_right (by omega), List.getElem?_append_left (by omega)]
      simp [hj]
    · rw [setV_get _ _ _ _ (.inr b)]
      rw [List.getElem?_append_right (by simp; omega), List.getElem?_append_right (by simp; omega)]
      simp [hr]

theorem setV_mid {os rest : List Value} (zs us : List Value) (h : zs.length = us.length) : setV (os ++ zs ++ rest) os.length us = os ++ us ++ rest := setV_pre us os zs h rest

theorem putRowB_pushW {w : World} {vs us : List Value} {e : TypeId} : putRowB (pushW w vs e) w.heap.size us e = pushW w us e := by
  refine world_ext ?_ rfl rfl rfl rfl
  apply Array.ext_getElem?
  intro k
  rw [heap_putRowB, heap_pushW]
  simp only [heap_pushW]
  by_cases hk : w.heap.size = k
  · subst hk; simp [pushW]
  · rw [if_neg hk, if_neg (Ne.symm hk), if_neg (Ne.symm hk)]

theorem VP.one {I : Nat → Nat → Prop} {w : World} {p : PV} {u : Value} (g : Ghost) (hg : g.I = I) (h : VP I w p u) (ho : okCell (.pv p) = true) : u.oneCell' = true := by
  subst hg
  exact okCell_one (.pv h) ho

theorem Flat.one {I : Nat → Nat → Prop} {w : World} {z : List PV} {us : List Value} (g : Ghost) (hg : g.I = I) (h : Flat I w [z] z.length us) (ho : (z.map AV.pv).all okCell = true) : ∀ u ∈ us, u.oneCell' = true := by
  intro u hu
  obtain ⟨j, hj, rfl⟩ := List.mem_iff_getElem.1 hu
  have hlen := h.len
  simp at hlen
  obtain ⟨u', h1, h2⟩ := h.at_ 0 z j z[j] rfl (by simp)
  simp at h1
  have : u' = us[j] := by rw [List.getElem?_eq_getElem hj] at h1; simpa using h1.symm
  subst this
  exact VP.one g hg h2 (List.all_eq_true.1 ho _ (List.mem_map.2 ⟨z[j], by simp, rfl⟩))

theorem appendRow_open {E : Env} {L : Lim} {g : Ghost} {w : World} {s s' : Sto} (hI : Inv E g w s) {t elem T : TypeId} {i : TypeInfo} {x y v : AV} {xv yv : Value} {rows : List (List PV)} {z row : List PV} {us : List Value}
    (ht : E.P.underlying t = some (.slice elem)) (hi : E.P.info? elem = some i) (hk : i.size ≠ 0) (hze : (zeroOf E.P elem).map List.length = some i.size)
    (hx : V g w x xv) (hxr : rowsOf x = some rows) (hy : V g w y yv) (hyr : rowsOf y = some [z]) (hzl : z.length = i.size) (hzo : (z.map AV.pv).all okCell = true)
    (hus : us.length = i.size) (hrow : row.length = i.size) (hvp : ∀ (j : Nat) p, row[j]? = some p → ∃ u, us[j]? = some u ∧ VP g.I w p u)
    (h : appendRow L s i x row = some (v, s')) :
    ∃ b cap vz e w1 wv g',
      (Builtin.append_ #[t, t] T #[xv, yv]).run E.P w = .ok (.slice (some ⟨b, 0, none⟩) (rows.length + 1) cap) w1 ∧
      V g' wv v (.slice (some ⟨b, 0, none⟩) (rows.length + 1) cap) ∧ Ext L g w g' wv ∧ Inv E g' wv s' ∧
      wv.heap[b]? = some (.cells ⟨setV vz (rows.length * i.size) us⟩ e (0, 0)) ∧ w1 = putRowB wv b vz e ∧ rows.length * i.size + us.length ≤ vz.length ∧
      (∃ k l, g'.tok k = some l ∧ l.b = b) := by
  obtain ⟨ybase, ycap, yb, yo, ysz, yf, rfl, hycap, hyra⟩ := rowsOf_sound hy hyr
  obtain ⟨zs, hzf, _, hzrun⟩ := hyra.flat' (k := i.size) hk (by simpa using hzl) ycap
  have hzsl : zs.length = i.size := by have := hzf.len; simpa using this
  have hzone : ∀ u ∈ zs, u.oneCell' = true := Flat.one g rfl (by rw [hzl]; exact hzf) hzo
  obtain ⟨zz, hzz⟩ : ∃ zz, zeroOf E.P elem = some zz := by cases hq : zeroOf E.P elem <;> simp_all
  obtain ⟨i', zv, hi', hzv, _, hzvl⟩ := zeroOf_sound (g := g) (w := w) hzz
  have : i' = i := by rw [hi] at hi'; simpa using hi'.symm
  subst this
  have hzs : zv.cells.size = i'.size := by rw [← Array.length_toList, ← hzvl.len]; rw [hzz] at hze; simpa using hze
  have hn : (Builtin.lenOf (.slice ybase [z].length ycap)).run E.P w = .ok 1 w := lenOf_slice _ _ _
  have hd : ∀ k, TypeDesc.slice elem ≠ .int k := fun k e => by simp at e
  have hfn : Flat g.I w [row] i'.size us := by
    have := flat_of_pvs (k := i'.size) (n := 1) (ps := row) (us := us) (I := g.I) (w := w) (by omega) (by omega) hvp
    simpa [rowsBy, ← hrow] using this
  unfold appendRow at h
  split at h
  · rename_i rows'
    simp [rowsOf] at hxr; subst hxr
    split at h
    · rename_i hc
      obtain ⟨hb1, hb2, hall⟩ := hc
      have hl := all_len hall
      simp only [Option.some.injEq, Prod.mk.injEq] at h
      obtain ⟨rfl, rfl⟩ := h
      cases hx with
      | @capped _ base b o sz f hr =>
        obtain ⟨os, hfo, _, hrunO⟩ := hr.flat' hk hl rows'.length
        obtain ⟨ncap, rest, hc1, hc2, hrun⟩ := run_append_grow (base := base) (sCap := rows'.length) T [] ht hi ht hd hn (hzrun E.P (drewW w) rfl) (hrunO E.P (drewW w) rfl) hzv (by omega) hb1 hb2
        obtain ⟨e1, i1⟩ := hI.drew (L := L)
        have hfa := hfo.append hfn
        have hvsl : (os ++ us ++ rest).length = ncap * i'.size := by
          simp only [List.length_append, hfo.len, hus, hc2, hzs]
          rw [show rows'.length * i'.size + i'.size = (rows'.length + 1) * i'.size by rw [Nat.add_mul]; omega, ← Nat.add_mul]
          rw [show rows'.length + 1 + (ncap - (rows'.length + 1)) = ncap by omega]
        obtain ⟨e3, i3⟩ := i1.pushT (L := L) (t := s.ts.length) (n := rows'.length + 1) (e := elem) hvsl hc1 hk (.inl ⟨rfl, rfl⟩)
        have hrl : (rows' ++ [row]).length = rows'.length + 1 := by simp
        refine ⟨w.heap.size, ncap, os ++ zs ++ rest, elem, _, pushW (drewW w) (os ++ us ++ rest) elem, _, hrun, ?_, e1.trans e3, i3, ?_, ?_, ?_, s.ts.length, ⟨(drewW w).heap.size, ncap, i'.size, rows'.length + 1⟩, by simp [Ghost.setT], rfl⟩
        · have hV := own_of_flat (g := g.setT s.ts.length ⟨(drewW w).heap.size, ncap, i'.size, rows'.length + 1⟩) (w := pushW (drewW w) (os ++ us ++ rest) elem) (t := s.ts.length) (b := (drewW w).heap.size) (cap := ncap)
            (by simp [Ghost.setT]) (hfa.mono (e1.trans e3).mono (e1.trans e3).cell) hrl hc1 (fun o ho => .inr ⟨rfl, ho⟩) (fun q u hq => by
              rw [cell_of_heap (by rw [heap_pushW]; exact if_pos rfl), List.getElem?_append_left (lt_of_getElem?L hq)]; exact hq)
          rw [hrl] at hV
          exact hV
        · rw [heap_pushW, if_pos (show w.heap.size = (drewW w).heap.size from rfl), ← hfo.len, setV_mid zs us (by omega)]
        · exact (putRowB_pushW (w := drewW w)).symm
        · simp [hfo.len, hzsl, hus]
    · simp at h
  · rename_i k rows'
    simp [rowsOf] at hxr; subst hxr
    split at h
    · rename_i hc
      obtain ⟨hb1, hb2, hts, hrt, hall⟩ := hc
      have hl := all_len hall
      simp only [Option.some.injEq, Prod.mk.injEq] at h
      obtain ⟨rfl, rfl⟩ := h
      have hrl : (rows' ++ [row]).length = rows'.length + 1 := by simp
      cases hx with
      | @own _ _ base b o sz cap f l hr hcap htk hnl hf =>
        obtain ⟨l', hl1, hl2, hl3⟩ := hI.tokN k _ _ hts
        have : l' = l := by rw [htk] at hl1; simpa using hl1.symm
        subst this
        obtain ⟨rfl, rfl, rfl, rfl, rfl⟩ := hf hl2.symm
        obtain ⟨os, hfo, hco, hrunO⟩ := hr.flat' hk hl l'.cap
        have hfa := hfo.append hfn
        obtain ⟨vs, e', hh, hvl', hnc, hsz⟩ := hI.tok k l' htk
        by_cases hroom : rows'.length + 1 ≤ l'.cap
        · have hbd : l'.n * l'.sz + i'.size ≤ vs.length := by
            have := Nat.mul_le_mul_right i'.size hroom
            rw [Nat.add_mul] at this
            rw [hl2, hl3, hvl', hl3]; omega
          have hst := storeCells_run (P := E.P) (b := l'.b) (o := l'.n * l'.sz) (e := e') zs 0 w vs hzone hh (by omega)
          obtain ⟨e3, i3⟩ := hI.growT (L := L) (n := rows'.length + 1) (us := us) htk hh (by omega) hroom hrt
          have i3' : Inv E (g.setT k { l' with n := rows'.length + 1 }) (putRowB w l'.b (setV vs (l'.n * l'.sz) us) e') { s with ts := s.ts.set k (rows'.length + 1, i'.size) } := by rw [← hl3]; exact i3
          refine ⟨l'.b, l'.cap, setV vs (l'.n * l'.sz) zs, e', putRowB w l'.b (setV vs (l'.n * l'.sz) zs) e', putRowB w l'.b (setV vs (l'.n * l'.sz) us) e', _, ?_, ?_, e3, i3', ?_, ?_, ?_, k, { l' with n := rows'.length + 1 }, by simp [Ghost.setT], rfl⟩
          · have := run_append_room (base := some ⟨l'.b, 0, none⟩) T [] ht hi ht hd hn (hzrun E.P w rfl) hroom
            simp only [addr_add, Nat.zero_add] at this
            rw [← hl2, ← hl3, hst] at this
            rw [← hl2]
            exact this
          · have hV := own_of_flat (g := g.setT k { l' with n := rows'.length + 1 }) (w := putRowB w l'.b (setV vs (l'.n * l'.sz) us) e') (t := k) (b := l'.b) (cap := l'.cap) (sz := l'.sz)
              (by simp [Ghost.setT]) (Flat.resz hl3.symm (hfa.mono e3.mono e3.cell)) hrl hroom (fun o ho => .inr ⟨rfl, ho⟩) (fun q u hq => by
                rw [cell_of_heap (by rw [heap_putRowB, if_pos rfl, if_pos (hI.tokLt htk)])]
                rcases Nat.lt_or_ge q os.length with x | x
                · rw [List.getElem?_append_left x] at hq
                  have := (hco q u hq).2
                  rw [cell_of_heap hh, Nat.zero_add] at this
                  rw [setV_get us vs _ _ (.inl (by rw [hl2, hl3, ← hfo.len]; exact x))]
                  exact this
                · rw [List.getElem?_append_right x] at hq
                  have := setV_get_in us vs (l'.n * l'.sz) _ u hq (by omega)
                  rw [hl2, hl3, ← hfo.len, show os.length + (q - os.length) = q by omega] at this
                  rw [hl2, hl3, ← hfo.len]
                  exact this)
            rw [hrl] at hV
            exact hV
          · rw [heap_putRowB, if_pos rfl, if_pos (hI.tokLt htk), hl2, hl3, setV_setV us zs (by omega)]
          · exact putRowB_putRowB.symm
          · rw [setV_length]; have := hbd; rw [hl2, hl3] at this; omega
        · obtain ⟨ncap, rest, hc1, hc2, hrun⟩ := run_append_grow (base := some ⟨l'.b, 0, none⟩) (sCap := l'.cap) T [] ht hi ht hd hn (hzrun E.P (drewW w) rfl) (hrunO E.P (drewW w) rfl) hzv (by omega) hb1 hb2
          obtain ⟨e1, i1⟩ := hI.drew (L := L)
          have hvsl : (os ++ us ++ rest).length = ncap * i'.size := by
            simp only [List.length_append, hfo.len, hus, hc2, hzs]
            rw [show rows'.length * i'.size + i'.size = (rows'.length + 1) * i'.size by rw [Nat.add_mul]; omega, ← Nat.add_mul]
            rw [show rows'.length + 1 + (ncap - (rows'.length + 1)) = ncap by omega]
          obtain ⟨e3, i3⟩ := i1.pushT (L := L) (t := k) (n := rows'.length + 1) (e := elem) hvsl hc1 hk (.inr ⟨l', htk, by omega, hrt, rfl⟩)
          refine ⟨w.heap.size, ncap, os ++ zs ++ rest, elem, _, pushW (drewW w) (os ++ us ++ rest) elem, _, hrun, ?_, e1.trans e3, i3, ?_, ?_, ?_, k, ⟨(drewW w).heap.size, ncap, i'.size, rows'.length + 1⟩, by simp [Ghost.setT], rfl⟩
          · have hV := own_of_flat (g := g.setT k ⟨(drewW w).heap.size, ncap, i'.size, rows'.length + 1⟩) (w := pushW (drewW w) (os ++ us ++ rest) elem) (t := k) (b := (drewW w).heap.size) (cap := ncap)
              (by simp [Ghost.setT]) (hfa.mono (e1.trans e3).mono (e1.trans e3).cell) hrl hc1 (fun o ho => .inr ⟨rfl, ho⟩) (fun q u hq => by
                rw [cell_of_heap (by rw [heap_pushW]; exact if_pos rfl), List.getElem?_append_left (lt_of_getElem?L hq)]; exact hq)
            rw [hrl] at hV
            exact hV
          · rw [heap_pushW, if_pos (show w.heap.size = (drewW w).heap.size from rfl), ← hfo.len, setV_mid zs us (by omega)]
          · exact (putRowB_pushW (w := drewW w)).symm
          · simp [hfo.len, hzsl, hus]
    · simp at h
  · simp at h

end Go.Tel
