/-
  Single operations, part 8: blocks that grow; append.
-/
import Derived.Test.YtedmfigcajdkbaaGreatDoorTelI
namespace Go.Tel

def Ghost.kill (g : Ghost) (id : Nat) : Ghost :=
  { g with blk := fun i => if i = id then none else g.blk i, dead := fun i => g.dead i ∨ i = id,
           hd := fun i (hi : g.dead i ∨ i = id) => (if e : i = id then if_pos e else (if_neg e).trans (g.hd i (hi.resolve_right e)) : (if i = id then none else g.blk i) = none) }

theorem Inv.kill {E : Env} {L : Lim} {g : Ghost} {w : World} {s : Sto} (h : Inv E g w s) {id b : Nat} (hb : g.blk id = some b) (hro : L.ro ≤ id) :
    Ext L g w (g.kill id) w ∧ Inv E (g.kill id) w { s with bs := s.bs.set id [] } := by
  have inv : ∀ i b', (g.kill id).blk i = some b' → i ≠ id ∧ g.blk i = some b' := fun i b' hi => by
    simp only [Ghost.kill] at hi
    split at hi
    · simp at hi
    · exact ⟨by assumption, hi⟩
  have ext : Ext L g w (g.kill id) w := {
    os := rfl, tape := rfl, output := rfl, size := Nat.le_refl _
    mono := fun _ _ hi => hi
    cell := fun _ _ _ => rfl
    blk := fun i b' hi => by
      by_cases e : i = id
      · exact .inr (.inr e)
      · exact .inl (by simp [Ghost.kill, e, hi])
    dead := fun _ hd => .inl hd
    shape := fun _ _ _ _ => rfl
    tok := fun _ l hl => ⟨l, hl, .inl rfl⟩
    keepB := fun i b' hi hlt => ⟨by have : i ≠ id := by omega
                                    simp [Ghost.kill, this, hi], rfl⟩
    keepT := fun _ _ hl _ => ⟨hl, rfl, fun _ ho => ho⟩
    out := fun _ _ _ _ _ => ⟨rfl, fun _ ho => ho⟩
    mp := fun _ _ hb => hb
    keepM := fun _ _ _ => ⟨fun _ => rfl, fun _ ho => ho⟩
    newM := fun id' _ hb _ => ⟨id', hb⟩
    newB := fun i b' hi _ => ⟨i, (inv i b' hi).2⟩
    pend := fun _ h => h
    newT := fun _ l hl _ => ⟨l, hl, rfl⟩ }
  refine ⟨ext, ?_⟩
  exact {
    blkN := fun i b' hi => by simpa using h.blkN i b' (inv i b' hi).2
    deadN := fun i hd => by
      rcases hd with hd | rfl
      · simpa using h.deadN i hd
      · simpa using h.blkN _ b hb
    deadE := fun i hd => by
      by_cases e : i = id
      · subst e; simp [h.blkN _ b hb]
      · rcases hd with hd | hd
        · simp only [List.getElem?_set_ne (Ne.symm e)]; exact h.deadE i hd
        · exact absurd hd e
    blk := fun i b' hi => by
      obtain ⟨e, hi⟩ := inv i b' hi
      obtain ⟨cs, vs, e', h1, h2, h3, h4⟩ := h.blk i b' hi
      exact ⟨cs, vs, e', by simp only [List.getElem?_set_ne (Ne.symm e)]; exact h1, h2, h3, h4.mono ext⟩
    blkI := fun i b' o hi => h.blkI i b' o (inv i b' hi).2
    tokN := h.tokN
    tokL := h.tokL
    tok := h.tok
    tokI := h.tokI
    injB := fun i j b' hi hj => h.injB i j b' (inv i b' hi).2 (inv j b' hj).2
    injT := h.injT
    injBT := fun i b' t l hi hl => h.injBT i b' t l (inv i b' hi).2 hl
    Ilt := h.Ilt
    allB := fun i hi => by
      by_cases e : i = id
      · exact .inr (.inl (.inr e))
      · rcases h.allB i (by simpa using hi) with ⟨b', hb'⟩ | q | q
        · exact .inl ⟨b', (if_neg e).trans hb'⟩
        · exact .inr (.inl (.inl q))
        · exact .inr (.inr q)
    mp := h.mpKeep (fun _ _ hb' => List.getElem?_set_ne (h.mpNe hb hb')) (fun _ _ _ => rfl)
    mpX := fun i b' hb' => by
      obtain ⟨a1, a2, a3⟩ := h.mpX i b' hb'
      have hne : i ≠ id := Ne.symm (h.mpNe hb hb')
      exact ⟨(if_neg hne).trans a1, fun hd => hd.elim a2 hne, a3⟩
    injM := h.injM
    pendN := fun i hp => by
      obtain ⟨a, b, c⟩ := h.pendN i hp
      have hne : i ≠ id := fun e => by rw [e, hb] at b; simp at b
      exact ⟨by simpa using a, (if_neg hne).trans b, fun hd => hd.elim c hne⟩
    glob := fun gl row hr j c hj => by
      obtain ⟨v, h1, h2, h3⟩ := h.glob gl row hr j c hj
      exact ⟨v, h1, h2, h3.mono ext.mono ext.cell⟩ }

theorem Inv.kfresh {E : Env} {g : Ghost} {w : World} {s : Sto} (h : Inv E g w s) {id b : Nat} (hb : g.blk id = some b) : ¬ (g.kill id).dead s.bs.length := fun hd => by
  rcases hd with hd | hd
  · have := h.deadN _ hd; omega
  · have := h.blkN id b hb; omega

/-- A block that has room: it goes on under a new id. -/
theorem Inv.growB {E : Env} {L : Lim} {g : Ghost} {w : World} {s : Sto} (h : Inv E g w s) {id b : Nat} {cs' : List AV} {vs vs' : List Value} {e : TypeId}
    (hb : g.blk id = some b) (hh : w.heap[b]? = some (.cells ⟨vs⟩ e (0, 0))) (hvl : vs'.length = vs.length) (hro : L.ro ≤ id) (hle : cs'.length ≤ vs'.length) (hl : VL g w cs' (vs'.take cs'.length)) :
    Ext L g w ((g.kill id).addB s.bs.length b (h.kfresh hb)) (putRowB w b vs' e) ∧ Inv E ((g.kill id).addB s.bs.length b (h.kfresh hb)) (putRowB w b vs' e) { s with bs := s.bs.set id [] ++ [cs'] } := by
  have hlt := h.blkLt hb
  have hidl := h.blkN id b hb
  have hne : ∀ k, k ≠ b → (putRowB w b vs' e).heap[k]? = w.heap[k]? := fun k hk => by rw [heap_putRowB, if_neg (fun h => hk h.symm)]
  have hat : (putRowB w b vs' e).heap[b]? = some (.cells ⟨vs'⟩ e (0, 0)) := by rw [heap_putRowB, if_pos rfl, if_pos hlt]
  have hsz : (putRowB w b vs' e).heap.size = w.heap.size := by simp [putRowB]
  have inv : ∀ i b', ((g.kill id).addB s.bs.length b (h.kfresh hb)).blk i = some b' → (i = s.bs.length ∧ b' = b) ∨ (i ≠ id ∧ i ≠ s.bs.length ∧ g.blk i = some b') := fun i b' hi => by
    simp only [Ghost.addB, Ghost.kill] at hi
    split at hi
    · simp at hi; exact .inl ⟨by assumption, hi.symm⟩
    · split at hi
      · simp at hi
      · exact .inr ⟨by assumption, by assumption, hi⟩
  have keep : ∀ i b', g.blk i = some b' → i ≠ id → ((g.kill id).addB s.bs.length b (h.kfresh hb)).blk i = some b' := fun i b' hi e => by
    have := h.blkN i b' hi
    have e2 : i ≠ s.bs.length := by omega
    simp [Ghost.addB, Ghost.kill, e, e2, hi]
  have ext : Ext L g w ((g.kill id).addB s.bs.length b (h.kfresh hb)) (putRowB w b vs' e) := {
    os := rfl, tape := rfl, output := rfl, size := by rw [hsz]; exact Nat.le_refl _
    mono := fun _ _ hi => hi
    cell := fun k o hi => cell?_congr (hne k (fun hk => h.blkI id b o hb (hk ▸ hi))) o
    blk := fun i b' hi => by
      by_cases e : i = id
      · exact .inr (.inr e)
      · exact .inl (keep i b' hi e)
    dead := fun _ hd => .inl hd
    shape := fun i b' hi hi' => by
      by_cases hk : b' = b
      · subst hk; rw [shape_of_heap hat, shape_of_heap hh, hvl]
      · exact shape_congr (hne b' hk)
    tok := fun _ l hl => ⟨l, hl, .inl rfl⟩
    keepB := fun i b' hi hlt' => by
      have e : i ≠ id := by omega
      exact ⟨keep i b' hi e, hne b' (fun hk => e (h.injB i id b' hi (hk ▸ hb)))⟩
    keepT := fun t l hl _ => ⟨hl, hne _ (fun hk => h.injBT id b t l hb hl hk.symm), fun _ ho => ho⟩
    out := fun k _ h1 _ _ => ⟨hne k (fun hk => h1 id (hk ▸ hb)), fun _ ho => ho⟩
    mp := fun _ _ hb => hb
    keepM := fun _ b' hb' => ⟨fun _ => hne b' (fun hk => h.mpB hb' (hk ▸ hb)), fun _ ho => ho⟩
    newM := fun id' _ hb _ => ⟨id', hb⟩
    newB := fun i b' hi _ => by
      rcases inv i b' hi with ⟨_, rfl⟩ | ⟨_, _, hi⟩
      · exact ⟨id, hb⟩
      · exact ⟨i, hi⟩
    pend := fun _ h => h
    newT := fun _ l hl _ => ⟨l, hl, rfl⟩ }
  refine ⟨ext, ?_⟩
  exact {
    blkN := fun i b' hi => by
      rcases inv i b' hi with ⟨rfl, _⟩ | ⟨_, _, hi⟩
      · simp
      · have := h.blkN i b' hi; simp; omega
    deadN := fun i hd => by
      rcases hd with hd | rfl
      · have := h.deadN i hd; simp; omega
      · simp; omega
    deadE := fun i hd => by
      have hlt : i < s.bs.length := by
        rcases hd with hd | rfl
        · exact h.deadN i hd
        · exact hidl
      rw [List.getElem?_append_left (by simpa using hlt)]
      by_cases e : i = id
      · subst e; simp [hlt]
      · rcases hd with hd | hd
        · simp only [List.getElem?_set_ne (Ne.symm e)]; exact h.deadE i hd
        · exact absurd hd e
    blk := fun i b' hi => by
      rcases inv i b' hi with ⟨rfl, rfl⟩ | ⟨e1, _, hi⟩
      · exact ⟨cs', vs', e, by rw [List.getElem?_append_right (by simp)]; simp, hat, hle, hl.mono ext⟩
      · obtain ⟨cs, us, e', h1, h2, h3, h4⟩ := h.blk i b' hi
        exact ⟨cs, us, e', by rw [List.getElem?_append_left (by simpa using h.blkN i b' hi)]; simp only [List.getElem?_set_ne (Ne.symm e1)]; exact h1,
          by rw [hne b' (fun hk => e1 (h.injB i id b' hi (hk ▸ hb)))]; exact h2, h3, h4.mono ext⟩
    blkI := fun i b' o hi => by
      rcases inv i b' hi with ⟨_, rfl⟩ | ⟨_, _, hi⟩
      · exact h.blkI id _ o hb
      · exact h.blkI i b' o hi
    tokN := h.tokN
    tokL := h.tokL
    tok := fun t l hl => by
      obtain ⟨us, e', h1, h2⟩ := h.tok t l hl
      exact ⟨us, e', by rw [hne _ (fun hk => h.injBT id b t l hb hl hk.symm)]; exact h1, h2⟩
    tokI := h.tokI
    injB := fun i j b' hi hj => by
      rcases inv i b' hi with ⟨e1, e2⟩ | ⟨e1, e2, hi⟩
      · rcases inv j b' hj with ⟨e3, _⟩ | ⟨e3, e4, hj'⟩
        · rw [e1, e3]
        · exact absurd (h.injB j id b' hj' (by rw [hb, e2])) e3
      · rcases inv j b' hj with ⟨e3, e4⟩ | ⟨e3, e4, hj'⟩
        · exact absurd (h.injB i id b' hi (by rw [hb, e4])) e1
        · exact h.injB i j b' hi hj'
    injT := h.injT
    injBT := fun i b' t l hi hl => by
      rcases inv i b' hi with ⟨_, rfl⟩ | ⟨_, _, hi⟩
      · exact h.injBT id _ t l hb hl
      · exact h.injBT i b' t l hi hl
    Ilt := fun k o hi => by rw [hsz]; exact h.Ilt k o hi
    allB := fun i hi => by
      by_cases e : i = s.bs.length
      · exact .inl ⟨_, if_pos e⟩
      by_cases e2 : i = id
      · exact .inr (.inl (.inr e2))
      · rcases h.allB i (by simp at hi; omega) with ⟨b', hb'⟩ | q | q
        · exact .inl ⟨b', (if_neg e).trans ((if_neg e2).trans hb')⟩
        · exact .inr (.inl (.inl q))
        · exact .inr (.inr q)
    mp := h.mpKeep (fun i b' hb' => by
        have hlt := h.mpN hb'
        rw [List.getElem?_append_left (by simpa using hlt)]
        exact List.getElem?_set_ne (h.mpNe hb hb')) (fun _ b' hb' => hne b' (fun hk => h.mpB hb' (hk ▸ hb)))
    mpX := fun i b' hb' => by
      obtain ⟨a1, a2, a3⟩ := h.mpX i b' hb'
      have hne : i ≠ id := Ne.symm (h.mpNe hb hb')
      have hlt := h.mpN hb'
      exact ⟨(if_neg (Nat.ne_of_lt hlt)).trans ((if_neg hne).trans a1), fun hd => hd.elim a2 hne, a3⟩
    injM := h.injM
    pendN := fun i hp => by
      obtain ⟨a, b, c⟩ := h.pendN i hp
      have hne : i ≠ id := fun e => by rw [e, hb] at b; simp at b
      exact ⟨by simp; omega, (if_neg (by omega)).trans ((if_neg hne).trans b), fun hd => hd.elim c hne⟩
    glob := fun gl row hr j c hj => by
      obtain ⟨v, h1, h2, h3⟩ := h.glob gl row hr j c hj
      exact ⟨v, h1, by rw [ext.cell _ _ h1]; exact h2, h3.mono ext.mono ext.cell⟩ }

theorem Flat.resz {I : Nat → Nat → Prop} {w : World} {rows : List (List PV)} {k k' : Nat} {us : List Value} (e : k = k') (h : Flat I w rows k us) : Flat I w rows k' us := by subst e; exact h

/-- Rows behind one another in a token's block. -/
theorem own_of_flat {g : Ghost} {w : World} {t n cap sz : Nat} {b : Nat} {rows : List (List PV)} {us : List Value} (hg : g.tok t = some ⟨b, cap, sz, n⟩) (hf : Flat g.I w rows sz us)
    (hn : rows.length = n) (hc : n ≤ cap) (hI : ∀ o, o < n * sz → g.I b o) (hh : ∀ q u, us[q]? = some u → w.cell? ⟨b, q, none⟩ = some u) :
    V g w (.own t rows) (.slice (some ⟨b, 0, none⟩) rows.length cap) := by
  have hra := hf.rowsAt (b := b) (o := 0) (fun q hq => by rw [Nat.zero_add]; exact hI q (by rw [← hn, ← hf.len]; exact hq)) (fun q u hq => by
    rw [Nat.zero_add]; exact hh q u hq)
  exact .own hra (by omega) hg (by simp only; omega) (fun _ => ⟨rfl, rfl, rfl, rfl, rfl⟩)

theorem setV_take_append (us vs : List Value) (k : Nat) (h : k + us.length ≤ vs.length) : (setV vs k us).take (k + us.length) = vs.take k ++ us := by
  apply List.ext_getElem?
  intro q
  rw [List.getElem?_take]
  split
  · rename_i hq
    rcases Nat.lt_or_ge q k with x | x
    · rw [setV_get us vs k q (.inl x), List.getElem?_append_left (by simp; omega), List.getElem?_take, if_pos x]
    · obtain ⟨j, rfl⟩ : ∃ j, q = k + j := ⟨q - k, by omega⟩
      have hj : j < us.length := by omega
      rw [setV_get_in us vs k j us[j] (by simp [hj]) h, List.getElem?_append_right (by simp; omega)]
      simp only [List.length_take]
      rw [show k + j - min k vs.length = j by omega]
      simp [hj]
  · rename_i hq
    rw [List.getElem?_eq_none (by simp; omega)]

theorem lenOf_slice {P : Program} {w : World} (a : Option Addr) (n c : Nat) : (Builtin.lenOf (.slice a n c)).run P w = .ok n w := by simp [Builtin.lenOf]

theorem VL.one {g : Ghost} {w : World} {cs : List AV} {vs : List Value} (h : VL g w cs vs) (ho : cs.all okCell = true) : ∀ u ∈ vs, u.oneCell' = true := by
  intro u hu
  obtain ⟨j, hj, rfl⟩ := List.mem_iff_getElem.1 hu
  have hj' : j < cs.length := by rw [h.len]; exact hj
  exact okCell_one (h.at_ j cs[j] _ (by simp [hj']) (by simp)) (List.all_eq_true.1 ho cs[j] (by simp))

theorem appendA_sound {E : Env} {L : Lim} {g : Ghost} {w : World} {s s' : Sto} (hI : Inv E g w s) {t u T : TypeId} {ts : List TypeId} {d : TypeDesc} {x y v : AV} {xv yv : Value}
    (hx : V g w x xv) (hy : V g w y yv) (hu : E.P.underlying u = some d) (hd : ∀ k, d ≠ .int k) (h : appendA E.P L s t x y = some (v, s')) :
    ∃ v' w' g', (Builtin.append_ (List.toArray (t :: u :: ts)) T #[xv, yv]).run E.P w = .ok v' w' ∧ V g' w' v v' ∧ Ext L g w g' w' ∧ Inv E g' w' s' := by
  unfold appendA at h
  split at h
  · rename_i elem ht
    split at h
    · rename_i i hi
      split at h
      · rename_i hz
        obtain ⟨hz, hk⟩ := hz
        obtain ⟨z, hz1, hz2⟩ : ∃ z, zeroOf E.P elem = some z ∧ z.length = i.size := by
          cases hq : zeroOf E.P elem with
          | none => simp [hq] at hz
          | some z => simp [hq] at hz; exact ⟨z, rfl, hz⟩
        obtain ⟨i', zv, hi', hzv, _, hzl⟩ := zeroOf_sound (g := g) (w := w) hz1
        have : i' = i := by rw [hi] at hi'; simpa using hi'.symm
        subst this
        have hzs : zv.cells.size = i'.size := by rw [← Array.length_toList, ← hzl.len]; exact hz2
        split at h
        · -- nothing is appended
          rename_i hsrc
          obtain ⟨n, us, hn, hcl, hfc, hvl⟩ := srcCells_sound hI hy hk hsrc
          have hn0 : n = 0 := by
            rcases Nat.mul_eq_zero.1 hcl.symm with x | x
            · exact x
            · exact absurd x hk
          subst hn0
          have hus : us = [] := hvl.nil_inv
          subst hus
          have key : ∀ (base : Option Addr) (len cap : Nat), xv = .slice base len cap → len ≤ cap →
              (Builtin.append_ (List.toArray (t :: u :: ts)) T #[xv, yv]).run E.P w = .ok xv w := by
            intro base len cap e hle
            subst e
            rw [run_append_room T ts ht hi hu hd hn (hfc w rfl) (by omega)]
            cases base <;> simp [storeCells]
          split at h
          · rename_i id off len sz
            cases hal : Tel.alive s id with
            | false => simp [hal] at h
            | true =>
              simp only [hal, cond_true, Option.some.injEq, Prod.mk.injEq] at h
              obtain ⟨rfl, rfl⟩ := h
              refine ⟨xv, w, g, ?_, hx, Ext.refl _ _ _, hI⟩
              cases hx with
              | refD hd => exact absurd hd (hI.alive hal)
              | ref _ hcap => exact key _ _ _ rfl hcap
          · split at h
            · rename_i rows hrows
              simp only [Option.some.injEq, Prod.mk.injEq] at h
              obtain ⟨rfl, rfl⟩ := h
              obtain ⟨base, cap, b, o, sz, f, e, hcap, _⟩ := rowsOf_sound hx hrows
              exact ⟨xv, w, g, key _ _ _ e hcap, hx, Ext.refl _ _ _, hI⟩
            · simp at h
        · -- something is appended
          rename_i c cs hsrc
          split at h
          · rename_i hok
            obtain ⟨n, us, hn, hcl, hfc, hvl⟩ := srcCells_sound hI hy hk hsrc
            have hone := hvl.one hok
            have hdiv : (c :: cs).length / i'.size = n := by rw [hcl]; exact Nat.mul_div_cancel _ (by omega)
            have hnp : 0 < n := by
              rcases Nat.eq_zero_or_pos n with x | x
              · subst x; simp at hcl
              · exact x
            have hul : us.length = n * i'.size := by rw [← hvl.len]; exact hcl
            simp only [hdiv] at h
            split at h
            · rename_i id off len sz
              split at h
              · rename_i old hold
                split at h
                · rename_i hc
                  obtain ⟨rfl, rfl, hlo, hal, hb1, hb2, hro⟩ := hc
                  simp only [Option.some.injEq, Prod.mk.injEq] at h
                  obtain ⟨rfl, rfl⟩ := h
                  cases hx with
                  | refD hd => exact absurd hd (hI.alive hal)
                  | @ref _ _ _ _ b cap n' e hblk hcap hs hn' =>
                    obtain ⟨cs', vs, e', k1, k2, kle, k3⟩ := hI.blk id b hblk
                    rw [hold] at k1; simp only [Option.some.injEq] at k1; subst k1
                    have hsh : vs.length = n' := by rw [shape_of_heap k2] at hs; simp at hs; exact hs.2
                    by_cases hroom : len + n ≤ cap
                    · have hbd : len * i'.size + us.length ≤ vs.length := by
                        have := Nat.mul_le_mul_right i'.size hroom
                        rw [Nat.add_mul] at this
                        omega
                      have hst := storeCells_run (P := E.P) (b := b) (o := len * i'.size) (e := e') us 0 w vs hone k2 (by omega)
                      obtain ⟨e1, e2⟩ := hI.growB (L := L) (cs' := old ++ (c :: cs)) (vs' := setV vs (len * i'.size) us) hblk k2 (setV_length _ _ _) hro
                        (by rw [setV_length, List.length_append, hcl, ← hlo, ← hul]; exact hbd)
                        (by rw [List.length_append, hcl, ← hul, ← hlo, setV_take_append us vs _ hbd, hlo]; exact k3.append hvl)
                      refine ⟨_, _, _, ?_, V.ref (b := b) (e := e') (n := n') ?_ hroom ?_ hn', e1, e2⟩
                      · rw [run_append_room T ts ht hi hu hd hn (hfc w rfl) hroom]
                        simp only [addr_add, Nat.zero_add]
                        rw [hst]
                        rfl
                      · simp [Ghost.addB]
                      · rw [shape_of_heap (by rw [heap_putRowB, if_pos rfl, if_pos (hI.blkLt hblk)]), setV_length, hsh]
                    · have hos : (Builtin.firstCells i'.size len (.slice (some ⟨b, 0, none⟩) len cap)).run E.P (drewW w) = .ok (List.toArray (vs.take old.length)) (drewW w) := by
                        simp only [Builtin.firstCells]
                        have := loadCells_run (P := E.P) (w := drewW w) (b := b) (o := 0) (vs.take old.length) (fun j q hj => by
                          rw [List.getElem?_take] at hj
                          split at hj
                          · have := cell_of_heap (w := drewW w) (o := 0 + j) k2
                            rw [this, Nat.zero_add]; exact hj
                          · simp at hj)
                        rw [List.length_take, Nat.min_eq_left kle] at this
                        rw [hlo]
                        exact this
                      obtain ⟨ncap, rest, hc1, hc2, hrun⟩ := run_append_grow (base := some ⟨b, 0, none⟩) (sCap := cap) T ts ht hi hu hd hn (hfc (drewW w) rfl) hos hzv (by omega) hb1 hb2
                      obtain ⟨e1, i1⟩ := hI.drew (L := L)
                      obtain ⟨e2, i2⟩ := i1.kill (L := L) hblk hro
                      have hpre : (old ++ (c :: cs)).length ≤ (vs.take old.length ++ us ++ rest).length := by
                        simp only [List.length_append, List.length_take, hcl, hul]; omega
                      have htk : (vs.take old.length ++ us ++ rest).take (old ++ (c :: cs)).length = vs.take old.length ++ us := by
                        rw [List.take_left' (by simp only [List.length_append, List.length_take, hcl, hul]; omega)]
                      obtain ⟨e3, i3⟩ := i2.pushB (L := L) (cs := old ++ (c :: cs)) (vs := vs.take old.length ++ us ++ rest) elem hpre (by rw [htk]; exact ((k3.append hvl).mono e1).mono e2)
                      refine ⟨_, _, _, hrun, ?_, (e1.trans e2).trans e3, i3⟩
                      refine V.ref (b := w.heap.size) (e := elem) (n := (vs.take old.length ++ us ++ rest).length) ?_ hc1 ?_ ?_
                      · simp [Ghost.addB, drewW]
                      · exact shape_of_heap (by rw [heap_pushW]; exact if_pos rfl)
                      · simp only [List.length_append, List.length_take, hul, hc2, hzs, Nat.min_eq_left kle]
                        rw [← hlo, ← Nat.add_mul, ← Nat.add_mul]
                        rw [show len + n + (ncap - (len + n)) = ncap by omega]
                        omega
                · simp at h
              · simp at h
            · rename_i rows
              split at h
              · rename_i hc
                obtain ⟨hb1, hb2, hall⟩ := hc
                have hl := all_len hall
                cases hx with
                | @capped _ base b o sz f hr =>
                  obtain ⟨os, hfo, _, hrunO⟩ := hr.flat' hk hl rows.length
                  obtain ⟨ncap, rest, hc1, hc2, hrun⟩ := run_append_grow (base := base) (sCap := rows.length) T ts ht hi hu hd hn (hfc (drewW w) rfl) (hrunO E.P (drewW w) rfl) hzv (by omega) hb1 hb2
                  obtain ⟨e1, i1⟩ := hI.drew (L := L)
                  cases hmu : L.mu elem with
                  | true =>
                    simp only [hmu, cond_true, Option.some.injEq, Prod.mk.injEq] at h
                    obtain ⟨rfl, rfl⟩ := h
                    have hvo := (hfo.vl hk).append hvl
                    have hlen : (rows.flatten.map AV.pv ++ (c :: cs)).length = (os ++ us).length := hvo.len
                    obtain ⟨e3, i3⟩ := i1.pushB (L := L) (cs := rows.flatten.map .pv ++ (c :: cs)) (vs := os ++ us ++ rest) elem (by rw [hlen]; simp) (by rw [hlen, List.take_left' rfl]; exact hvo.mono e1)
                    refine ⟨_, _, _, hrun, ?_, e1.trans e3, i3⟩
                    refine V.ref (b := w.heap.size) (e := elem) (n := (os ++ us ++ rest).length) ?_ hc1 ?_ ?_
                    · simp [Ghost.addB, drewW]
                    · exact shape_of_heap (by rw [heap_pushW]; exact if_pos rfl)
                    · simp only [List.length_append, hfo.len, hul, hc2, hzs]
                      rw [← Nat.add_mul, ← Nat.add_mul]
                      rw [show rows.length + n + (ncap - (rows.length + n)) = ncap by omega]
                      omega
                  | false =>
                    simp only [hmu, cond_false] at h
                    split at h
                    · rename_i ps hps
                      simp only [Option.some.injEq, Prod.mk.injEq] at h
                      obtain ⟨rfl, rfl⟩ := h
                      obtain ⟨q1, q2⟩ := toPVs_sound hvl hps
                      have hfn : Flat g.I w (rowsBy i'.size n ps) i'.size us := flat_of_pvs hul q1 q2
                      have hfa := hfo.append hfn
                      have hvsl : (os ++ us ++ rest).length = ncap * i'.size := by
                        simp only [List.length_append, hfo.len, hul, hc2, hzs]
                        rw [← Nat.add_mul, ← Nat.add_mul]
                        rw [show rows.length + n + (ncap - (rows.length + n)) = ncap by omega]
                      obtain ⟨e3, i3⟩ := i1.pushT (L := L) (t := s.ts.length) (e := elem) hvsl hc1 hk (.inl ⟨rfl, rfl⟩)
                      have hrl : (rows ++ rowsBy i'.size n ps).length = rows.length + n := by rw [List.length_append, rowsBy_length]
                      refine ⟨_, _, _, hrun, ?_, e1.trans e3, i3⟩
                      have hV := own_of_flat (g := g.setT s.ts.length ⟨(drewW w).heap.size, ncap, i'.size, rows.length + n⟩) (w := pushW (drewW w) (os ++ us ++ rest) elem) (t := s.ts.length) (b := (drewW w).heap.size) (cap := ncap)
                        (by simp [Ghost.setT]) (hfa.mono (e1.trans e3).mono (e1.trans e3).cell) hrl hc1 (fun o ho => .inr ⟨rfl, ho⟩) (fun q u hq => by
                          rw [cell_of_heap (by rw [heap_pushW]; exact if_pos rfl), List.getElem?_append_left (lt_of_getElem?L hq)]; exact hq)
                      rw [hrl] at hV
                      exact hV
                    · simp at h
              · simp at h
            · rename_i k rows
              split at h
              · rename_i hc
                obtain ⟨hb1, hb2, hts, hrt, hall⟩ := hc
                have hl := all_len hall
                split at h
                · rename_i ps hps
                  simp only [Option.some.injEq, Prod.mk.injEq] at h
                  obtain ⟨rfl, rfl⟩ := h
                  obtain ⟨q1, q2⟩ := toPVs_sound hvl hps
                  have hfn : Flat g.I w (rowsBy i'.size n ps) i'.size us := flat_of_pvs hul q1 q2
                  have hrl : (rows ++ rowsBy i'.size n ps).length = rows.length + n := by rw [List.length_append, rowsBy_length]
                  cases hx with
                  | @own _ _ base b o sz cap f l hr hcap htk hnl hf =>
                    obtain ⟨l', hl1, hl2, hl3⟩ := hI.tokN k _ _ hts
                    have : l' = l := by rw [htk] at hl1; simpa using hl1.symm
                    subst this
                    obtain ⟨rfl, rfl, rfl, rfl, rfl⟩ := hf hl2.symm
                    obtain ⟨os, hfo, hco, hrunO⟩ := hr.flat' hk hl l'.cap
                    have hfa := hfo.append hfn
                    obtain ⟨vs, e', hh, hvl', hnc, hsz⟩ := hI.tok k l' htk
                    by_cases hroom : rows.length + n ≤ l'.cap
                    · have hbd : l'.n * l'.sz + us.length ≤ vs.length := by
                        have := Nat.mul_le_mul_right i'.size hroom
                        rw [Nat.add_mul] at this
                        rw [hl2, hl3, hvl', hul, hl3]; exact this
                      have hst := storeCells_run (P := E.P) (b := l'.b) (o := l'.n * l'.sz) (e := e') us 0 w vs hone hh (by omega)
                      obtain ⟨e3, i3⟩ := hI.growT (L := L) (n := rows.length + n) (us := us) htk hh (by omega) hroom hrt
                      have i3' : Inv E (g.setT k { l' with n := rows.length + n }) (putRowB w l'.b (setV vs (l'.n * l'.sz) us) e') { s with ts := s.ts.set k (rows.length + n, i'.size) } := by rw [← hl3]; exact i3
                      refine ⟨.slice (some ⟨l'.b, 0, none⟩) (rows.length + n) l'.cap, _, _, ?_, ?_, e3, i3'⟩
                      · rw [run_append_room T ts ht hi hu hd hn (hfc w rfl) hroom]
                        simp only [addr_add, Nat.zero_add]
                        rw [← hl2, ← hl3, hst]
                        rfl
                      · have hV := own_of_flat (g := g.setT k { l' with n := rows.length + n }) (w := putRowB w l'.b (setV vs (l'.n * l'.sz) us) e') (t := k) (b := l'.b) (cap := l'.cap) (sz := l'.sz)
                          (by simp [Ghost.setT]) (Flat.resz hl3.symm (hfa.mono e3.mono e3.cell)) hrl hroom (fun o ho => .inr ⟨rfl, ho⟩) (fun q u hq => by
                            rw [cell_of_heap (by rw [heap_putRowB, if_pos rfl, if_pos (hI.tokLt htk)])]
                            rcases Nat.lt_or_ge q os.length with x | x
                            · rw [List.getElem?_append_left x] at hq
                              have := (hco q u hq).2
                              rw [cell_of_heap hh, Nat.zero_add] at this
                              rw [setV_get us vs _ _ (.inl (by rw [hl2, hl3, ← hfo.len]; exact x))]
                              exact this
                            · rw [List.getElem?_append_right x] at hq
                              have := setV_get_in us vs (l'.n * l'.sz) _ u hq hbd
                              rw [hl2, hl3, ← hfo.len, show os.length + (q - os.length) = q by omega] at this
                              rw [hl2, hl3, ← hfo.len]
                              exact this)
                        rw [hrl] at hV
                        exact hV
                    · obtain ⟨ncap, rest, hc1, hc2, hrun⟩ := run_append_grow (base := some ⟨l'.b, 0, none⟩) (sCap := l'.cap) T ts ht hi hu hd hn (hfc (drewW w) rfl) (hrunO E.P (drewW w) rfl) hzv (by omega) hb1 hb2
                      obtain ⟨e1, i1⟩ := hI.drew (L := L)
                      have hvsl : (os ++ us ++ rest).length = ncap * i'.size := by
                        simp only [List.length_append, hfo.len, hul, hc2, hzs]
                        rw [← Nat.add_mul, ← Nat.add_mul]
                        rw [show rows.length + n + (ncap - (rows.length + n)) = ncap by omega]
                      obtain ⟨e3, i3⟩ := i1.pushT (L := L) (t := k) (e := elem) hvsl hc1 hk (.inr ⟨l', htk, by omega, hrt, rfl⟩)
                      refine ⟨_, _, _, hrun, ?_, e1.trans e3, i3⟩
                      have hV := own_of_flat (g := g.setT k ⟨(drewW w).heap.size, ncap, i'.size, rows.length + n⟩) (w := pushW (drewW w) (os ++ us ++ rest) elem) (t := k) (b := (drewW w).heap.size) (cap := ncap)
                        (by simp [Ghost.setT]) (hfa.mono (e1.trans e3).mono (e1.trans e3).cell) hrl hc1 (fun o ho => .inr ⟨rfl, ho⟩) (fun q u hq => by
                          rw [cell_of_heap (by rw [heap_pushW]; exact if_pos rfl), List.getElem?_append_left (lt_of_getElem?L hq)]; exact hq)
                      rw [hrl] at hV
                      exact hV
                · simp at h
              · simp at h
            · simp at h
          · simp at h
        · simp at h
      · simp at h
    · simp at h
  · simp at h

end Go.Tel
