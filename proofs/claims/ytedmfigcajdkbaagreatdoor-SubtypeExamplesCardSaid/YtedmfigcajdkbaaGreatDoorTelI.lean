/-
  Single operations, part 7: append, what becomes of the relation.
-/
import Derived.Test.YtedmfigcajdkbaaGreatDoorTelH
namespace Go.Tel

theorem Inv.drew {E : Env} {L : Lim} {g : Ghost} {w : World} {s : Sto} (h : Inv E g w s) : Ext L g w g (drewW w) ∧ Inv E g (drewW w) s := by
  have ext : Ext L g w g (drewW w) :=
    ⟨rfl, rfl, rfl, Nat.le_refl _, fun _ _ h => h, fun _ _ _ => rfl, fun _ _ h => .inl h, fun _ h => h, fun _ _ _ _ => rfl, fun _ l h => ⟨l, h, .inl rfl⟩, fun _ _ h _ => ⟨h, rfl⟩,
      fun _ _ h _ => ⟨h, rfl, fun _ h => h⟩, fun _ _ _ _ _ => ⟨rfl, fun _ h => h⟩, fun _ _ h => h, fun _ _ _ => ⟨fun _ => rfl, fun _ h => h⟩, fun id _ h _ => ⟨id, h⟩, fun id _ h _ => ⟨id, h⟩, fun _ l h _ => ⟨l, h, rfl⟩, fun _ h => h⟩
  refine ⟨ext, ?_⟩
  exact { h with
    blk := fun id b hb => by
      obtain ⟨cs, vs, e, h1, h2, h3, h4⟩ := h.blk id b hb
      exact ⟨cs, vs, e, h1, h2, h3, h4.mono ext⟩
    glob := fun gl row hr j c hj => by
      obtain ⟨v, h1, h2, h3⟩ := h.glob gl row hr j c hj
      exact ⟨v, h1, h2, h3.mono ext.mono ext.cell⟩ }

def Ghost.setT (g : Ghost) (t : Nat) (l : TokLoc) : Ghost :=
  { g with tok := fun k => if k = t then some l else g.tok k, I := fun b o => g.I b o ∨ (b = l.b ∧ o < l.n * l.sz) }

/-- A token that is new, or that moves on to a new block. -/
theorem Inv.pushT {E : Env} {L : Lim} {g : Ghost} {w : World} {s : Sto} (h : Inv E g w s) {t cap sz n : Nat} {vs : List Value} {e : TypeId} {ts' : List (Nat × Nat)}
    (hv : vs.length = cap * sz) (hn : n ≤ cap) (hsz : sz ≠ 0)
    (ht : (t = s.ts.length ∧ ts' = s.ts ++ [(n, sz)]) ∨ (∃ l, g.tok t = some l ∧ l.n < n ∧ L.rt ≤ t ∧ ts' = s.ts.set t (n, sz))) :
    Ext L g w (g.setT t ⟨w.heap.size, cap, sz, n⟩) (pushW w vs e) ∧ Inv E (g.setT t ⟨w.heap.size, cap, sz, n⟩) (pushW w vs e) { s with ts := ts' } := by
  have hs : (pushW w vs e).heap.size = w.heap.size + 1 := by simp [pushW]
  have hnone : ∀ k l, g.tok k = some l → k < s.ts.length := fun k l hl => lt_of_getElem?L (h.tokL k l hl)
  have hother : ∀ k, k ≠ t → (g.setT t ⟨w.heap.size, cap, sz, n⟩).tok k = g.tok k := fun k hk => by simp [Ghost.setT, hk]
  have hself : (g.setT t ⟨w.heap.size, cap, sz, n⟩).tok t = some ⟨w.heap.size, cap, sz, n⟩ := by simp [Ghost.setT]
  have hts : ∀ k, k ≠ t → ts'[k]? = s.ts[k]? ∨ (k ≥ s.ts.length ∧ ts'[k]? = none) := by
    intro k hk
    rcases ht with ⟨rfl, rfl⟩ | ⟨l, _, _, _, rfl⟩
    · rcases Nat.lt_or_ge k s.ts.length with x | x
      · exact .inl (List.getElem?_append_left x)
      · exact .inr ⟨x, List.getElem?_eq_none (by simp; omega)⟩
    · exact .inl (List.getElem?_set_ne (Ne.symm hk))
  have htt : ts'[t]? = some (n, sz) := by
    rcases ht with ⟨rfl, rfl⟩ | ⟨l, hl, _, _, rfl⟩
    · simp
    · have := hnone t l hl; simp [this]
  have inv : ∀ k l, (g.setT t ⟨w.heap.size, cap, sz, n⟩).tok k = some l → (k = t ∧ l = ⟨w.heap.size, cap, sz, n⟩) ∨ (k ≠ t ∧ g.tok k = some l) := fun k l hl => by
    by_cases hk : k = t
    · subst hk; rw [hself] at hl; simp at hl; exact .inl ⟨rfl, hl.symm⟩
    · rw [hother k hk] at hl; exact .inr ⟨hk, hl⟩
  have ext : Ext L g w (g.setT t ⟨w.heap.size, cap, sz, n⟩) (pushW w vs e) := {
    os := rfl, tape := rfl, output := rfl, size := by rw [hs]; exact Nat.le_succ _
    mono := fun _ _ hi => .inl hi
    cell := fun k o hi => cell?_congr (heap_pushW_lt (h.Ilt k o hi)) o
    blk := fun _ _ hb => .inl hb
    dead := fun _ hd => hd
    shape := fun id b hb _ => shape_congr (heap_pushW_lt (h.blkLt hb))
    tok := fun k l hl => by
      by_cases hk : k = t
      · subst hk
        refine ⟨_, hself, .inr ?_⟩
        rcases ht with ⟨rfl, _⟩ | ⟨l', hl', hlt, _, _⟩
        · have := hnone _ l hl; omega
        · rw [hl] at hl'; simp at hl'; subst hl'; exact hlt
      · exact ⟨l, by rw [hother k hk]; exact hl, .inl rfl⟩
    keepB := fun id b hb _ => ⟨hb, heap_pushW_lt (h.blkLt hb)⟩
    keepT := fun k l hl hlt => by
      have hk : k ≠ t := fun e => by
        subst e
        rcases ht with ⟨rfl, _⟩ | ⟨l', _, _, hr, _⟩
        · have := hnone _ l hl; omega
        · omega
      exact ⟨by rw [hother k hk]; exact hl, heap_pushW_lt (h.tokLt hl), fun o ho => ho.resolve_right (fun e => by have := h.tokLt hl; simp only at e; omega)⟩
    out := fun k hk _ _ _ => ⟨heap_pushW_lt hk, fun o ho => ho.resolve_right (fun e => by simp only at e; omega)⟩
    mp := fun _ _ hb => hb
    keepM := fun _ b' hb' => ⟨fun _ => heap_pushW_lt (h.mpLt hb'), fun o ho => ho.resolve_right (fun e => by have := h.mpLt hb'; simp only at e; omega)⟩
    newM := fun id' _ hb _ => ⟨id', hb⟩
    newB := fun id _ hb _ => ⟨id, hb⟩
    pend := fun _ h => h
    newT := fun k l hl hlt => by
      rcases inv k l hl with ⟨_, rfl⟩ | ⟨_, hl⟩
      · simp only at hlt; omega
      · exact ⟨l, hl, rfl⟩ }
  refine ⟨ext, ?_⟩
  exact {
    blkN := h.blkN
    deadN := h.deadN
    deadE := h.deadE
    blk := fun id b hb => by
      obtain ⟨cs', us, e', h1, h2, h3, h4⟩ := h.blk id b hb
      exact ⟨cs', us, e', h1, by rw [heap_pushW_lt (h.blkLt hb)]; exact h2, h3, h4.mono ext⟩
    blkI := fun id b o hb hi => by
      rcases hi with hi | hi
      · exact h.blkI id b o hb hi
      · have := h.blkLt hb; simp only at hi; omega
    tokN := fun k m q hk => by
      by_cases e : k = t
      · subst e; rw [htt] at hk; simp at hk; exact ⟨_, hself, hk.1, hk.2⟩
      · rw [hother k e]
        rcases hts k e with x | ⟨_, x⟩
        · rw [x] at hk; exact h.tokN k m q hk
        · rw [x] at hk; simp at hk
    tokL := fun k l hl => by
      rcases inv k l hl with ⟨rfl, rfl⟩ | ⟨hk, hl⟩
      · exact htt
      · rcases hts k hk with x | ⟨x, _⟩
        · rw [x]; exact h.tokL k l hl
        · have := hnone k l hl; omega
    tok := fun k l hl => by
      rcases inv k l hl with ⟨_, rfl⟩ | ⟨_, hl⟩
      · exact ⟨vs, e, by rw [heap_pushW, if_pos rfl], hv, hn, hsz⟩
      · obtain ⟨us, e', h1, h2⟩ := h.tok k l hl
        exact ⟨us, e', by rw [heap_pushW_lt (h.tokLt hl)]; exact h1, h2⟩
    tokI := fun k l o hl hle hi => by
      rcases inv k l hl with ⟨_, rfl⟩ | ⟨_, hl⟩
      · rcases hi with hi | hi
        · have := h.Ilt _ o hi; simp only at this; omega
        · simp only at hi hle; omega
      · rcases hi with hi | hi
        · exact h.tokI k l o hl hle hi
        · have := h.tokLt hl; simp only at hi; omega
    injB := h.injB
    injT := fun k k' l l' hl hl' he => by
      rcases inv k l hl with ⟨e1, rfl⟩ | ⟨_, hl⟩
      · rcases inv k' l' hl' with ⟨e2, _⟩ | ⟨_, hl'⟩
        · rw [e1, e2]
        · have := h.tokLt hl'; simp only at he; omega
      · rcases inv k' l' hl' with ⟨_, rfl⟩ | ⟨_, hl'⟩
        · have := h.tokLt hl; simp only at he; omega
        · exact h.injT k k' l l' hl hl' he
    injBT := fun id b k l hb hl => by
      rcases inv k l hl with ⟨_, rfl⟩ | ⟨_, hl⟩
      · have := h.blkLt hb; simp only; omega
      · exact h.injBT id b k l hb hl
    Ilt := fun k o hi => by
      rw [hs]
      rcases hi with hi | hi
      · have := h.Ilt k o hi; omega
      · simp only at hi; omega
    allB := h.allB
    mp := h.mpKeep (fun _ _ _ => rfl) (fun _ _ hb' => heap_pushW_lt (h.mpLt hb'))
    mpX := h.mpX
    injM := h.injM
    pendN := h.pendN
    glob := fun gl row hr j c hj => by
      obtain ⟨v, h1, h2, h3⟩ := h.glob gl row hr j c hj
      exact ⟨v, .inl h1, by rw [ext.cell _ _ h1]; exact h2, h3.mono ext.mono ext.cell⟩ }

theorem setV_get (us : List Value) : ∀ (vs : List Value) (k q : Nat), (q < k ∨ k + us.length ≤ q) → (setV vs k us)[q]? = vs[q]? := by
  induction us with
  | nil => intro vs k q _; rfl
  | cons u us ih =>
    intro vs k q hq
    simp only [List.length_cons] at hq
    rw [setV, ih _ _ _ (by omega), List.getElem?_set_ne (by omega)]

theorem setV_get_in (us : List Value) : ∀ (vs : List Value) (k q : Nat) (u : Value), us[q]? = some u → k + us.length ≤ vs.length → (setV vs k us)[k + q]? = some u := by
  induction us with
  | nil => intro vs k q u h _; simp at h
  | cons x us ih =>
    intro vs k q u h hle
    simp only [List.length_cons] at hle
    cases q with
    | zero =>
      simp at h; subst h
      rw [setV, setV_get us _ _ _ (.inl (by omega)), Nat.add_zero, List.getElem?_set_self (by omega)]
    | succ q =>
      simp at h
      rw [setV, show k + (q + 1) = k + 1 + q by omega]
      exact ih _ _ _ _ h (by simp; omega)

/-- A token whose block has room: the new rows are laid behind the old ones. -/
theorem Inv.growT {E : Env} {L : Lim} {g : Ghost} {w : World} {s : Sto} (h : Inv E g w s) {t n : Nat} {l : TokLoc} {vs us : List Value} {e : TypeId} (hl : g.tok t = some l)
    (hh : w.heap[l.b]? = some (.cells ⟨vs⟩ e (0, 0))) (hlt : l.n < n) (hle : n ≤ l.cap) (hrt : L.rt ≤ t) :
    Ext L g w (g.setT t { l with n := n }) (putRowB w l.b (setV vs (l.n * l.sz) us) e) ∧ Inv E (g.setT t { l with n := n }) (putRowB w l.b (setV vs (l.n * l.sz) us) e) { s with ts := s.ts.set t (n, l.sz) } := by
  have hb := h.tokLt hl
  have hne : ∀ k, k ≠ l.b → (putRowB w l.b (setV vs (l.n * l.sz) us) e).heap[k]? = w.heap[k]? := fun k hk => by rw [heap_putRowB, if_neg (fun h => hk h.symm)]
  have hat : (putRowB w l.b (setV vs (l.n * l.sz) us) e).heap[l.b]? = some (.cells ⟨setV vs (l.n * l.sz) us⟩ e (0, 0)) := by rw [heap_putRowB, if_pos rfl, if_pos hb]
  have hs : (putRowB w l.b (setV vs (l.n * l.sz) us) e).heap.size = w.heap.size := by simp [putRowB]
  obtain ⟨vs0, e0, hh0, hlen, hn0, hsz⟩ := h.tok t l hl
  have hvs : vs0 = vs := by rw [hh] at hh0; simp at hh0; exact hh0.1.symm
  rw [hvs] at hlen
  have hnt : t < s.ts.length := lt_of_getElem?L (h.tokL t l hl)
  have hother : ∀ k, k ≠ t → (g.setT t { l with n := n }).tok k = g.tok k := fun k hk => by simp [Ghost.setT, hk]
  have hself : (g.setT t { l with n := n }).tok t = some { l with n := n } := by simp [Ghost.setT]
  have inv : ∀ k l', (g.setT t { l with n := n }).tok k = some l' → (k = t ∧ l' = { l with n := n }) ∨ (k ≠ t ∧ g.tok k = some l') := fun k l' hl' => by
    by_cases hk : k = t
    · subst hk; rw [hself] at hl'; simp at hl'; exact .inl ⟨rfl, hl'.symm⟩
    · rw [hother k hk] at hl'; exact .inr ⟨hk, hl'⟩
  have hcellI : ∀ b o, g.I b o → (putRowB w l.b (setV vs (l.n * l.sz) us) e).cell? ⟨b, o, none⟩ = w.cell? ⟨b, o, none⟩ := fun b o hi => by
    by_cases hk : b = l.b
    · subst hk
      have : o < l.n * l.sz := by
        rcases Nat.lt_or_ge o (l.n * l.sz) with x | x
        · exact x
        · exact absurd hi (h.tokI t l o hl x)
      rw [cell_of_heap hat, cell_of_heap hh, setV_get us vs _ _ (.inl this)]
    · exact cell?_congr (hne b hk) o
  have ext : Ext L g w (g.setT t { l with n := n }) (putRowB w l.b (setV vs (l.n * l.sz) us) e) := {
    os := rfl, tape := rfl, output := rfl, size := by rw [hs]; exact Nat.le_refl _
    mono := fun _ _ hi => .inl hi
    cell := hcellI
    blk := fun _ _ hb => .inl hb
    dead := fun _ hd => hd
    shape := fun id b hb _ => shape_congr (hne b (h.injBT id b t l hb hl))
    tok := fun k l' hl' => by
      by_cases hk : k = t
      · subst hk
        rw [hl] at hl'; simp at hl'; subst hl'
        exact ⟨_, hself, .inr hlt⟩
      · exact ⟨l', by rw [hother k hk]; exact hl', .inl rfl⟩
    keepB := fun id b hb _ => ⟨hb, hne b (h.injBT id b t l hb hl)⟩
    keepT := fun k l' hl' hk' => by
      have hk : k ≠ t := fun e => by omega
      have hbb : l'.b ≠ l.b := fun e => hk (h.injT k t l' l hl' hl e)
      exact ⟨by rw [hother k hk]; exact hl', hne _ hbb, fun o ho => ho.resolve_right (fun e => hbb e.1)⟩
    out := fun k hk _ h2 _ => ⟨hne k (fun e => h2 t l hl e.symm), fun o ho => ho.resolve_right (fun e => h2 t l hl e.1.symm)⟩
    mp := fun _ _ hb => hb
    keepM := fun _ b' hb' => ⟨fun _ => hne b' (h.mpT hb' hl), fun o ho => ho.resolve_right (fun e => h.mpT hb' hl e.1)⟩
    newM := fun id' _ hb _ => ⟨id', hb⟩
    newB := fun id _ hb _ => ⟨id, hb⟩
    pend := fun _ h => h
    newT := fun k l' hl' _ => by
      rcases inv k l' hl' with ⟨rfl, rfl⟩ | ⟨_, hl'⟩
      · exact ⟨l, hl, rfl⟩
      · exact ⟨l', hl', rfl⟩ }
  refine ⟨ext, ?_⟩
  exact {
    blkN := h.blkN
    deadN := h.deadN
    deadE := h.deadE
    blk := fun id b hb => by
      obtain ⟨cs', us', e', h1, h2, h3, h4⟩ := h.blk id b hb
      exact ⟨cs', us', e', h1, by rw [hne b (h.injBT id b t l hb hl)]; exact h2, h3, h4.mono ext⟩
    blkI := fun id b o hb hi => by
      rcases hi with hi | hi
      · exact h.blkI id b o hb hi
      · exact h.injBT id b t l hb hl hi.1
    tokN := fun k m q hk => by
      by_cases e : k = t
      · subst e; simp [hnt] at hk; exact ⟨_, hself, hk.1, hk.2⟩
      · rw [hother k e]; simp only [List.getElem?_set_ne (Ne.symm e)] at hk; exact h.tokN k m q hk
    tokL := fun k l' hl' => by
      rcases inv k l' hl' with ⟨rfl, rfl⟩ | ⟨hk, hl'⟩
      · simp [hnt]
      · simp only [List.getElem?_set_ne (Ne.symm hk)]; exact h.tokL k l' hl'
    tok := fun k l' hl' => by
      rcases inv k l' hl' with ⟨_, rfl⟩ | ⟨hk, hl'⟩
      · exact ⟨_, e, hat, by rw [setV_length]; exact hlen, hle, hsz⟩
      · obtain ⟨us', e', h1, h2⟩ := h.tok k l' hl'
        exact ⟨us', e', by rw [hne _ (fun e => hk (h.injT k t l' l hl' hl e))]; exact h1, h2⟩
    tokI := fun k l' o hl' hle' hi => by
      rcases inv k l' hl' with ⟨_, rfl⟩ | ⟨hk, hl'⟩
      · rcases hi with hi | hi
        · exact h.tokI t l o hl (by simp only at hle'; have := Nat.mul_le_mul_right l.sz (Nat.le_of_lt hlt); omega) hi
        · simp only at hi hle'; omega
      · rcases hi with hi | hi
        · exact h.tokI k l' o hl' hle' hi
        · exact hk (h.injT k t l' l hl' hl hi.1)
    injB := h.injB
    injT := fun k k' l1 l2 h1 h2 he => by
      rcases inv k l1 h1 with ⟨e1, rfl⟩ | ⟨_, h1⟩
      · rcases inv k' l2 h2 with ⟨e2, _⟩ | ⟨_, h2⟩
        · rw [e1, e2]
        · rw [e1]; exact h.injT t k' l l2 hl h2 he
      · rcases inv k' l2 h2 with ⟨e2, rfl⟩ | ⟨_, h2⟩
        · rw [e2]; exact h.injT k t l1 l h1 hl he
        · exact h.injT k k' l1 l2 h1 h2 he
    injBT := fun id b k l' hb hl' => by
      rcases inv k l' hl' with ⟨_, rfl⟩ | ⟨_, hl'⟩
      · exact h.injBT id b t l hb hl
      · exact h.injBT id b k l' hb hl'
    Ilt := fun k o hi => by
      rw [hs]
      rcases hi with hi | hi
      · exact h.Ilt k o hi
      · rw [hi.1]; exact hb
    allB := h.allB
    mp := h.mpKeep (fun _ _ _ => rfl) (fun _ b' hb' => hne b' (h.mpT hb' hl))
    mpX := h.mpX
    injM := h.injM
    pendN := h.pendN
    glob := fun gl row hr j c hj => by
      obtain ⟨v, h1, h2, h3⟩ := h.glob gl row hr j c hj
      exact ⟨v, .inl h1, by rw [ext.cell _ _ h1]; exact h2, h3.mono ext.mono ext.cell⟩ }

end Go.Tel
