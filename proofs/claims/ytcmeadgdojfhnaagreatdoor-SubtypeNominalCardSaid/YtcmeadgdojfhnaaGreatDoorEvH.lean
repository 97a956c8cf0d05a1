/-
  Returns, part 1: what a value is for one who keeps only the first blocks and tokens.
-/
import Derived.Test.YtcmeadgdojfhnaaGreatDoorEvG
set_option linter.unusedSimpArgs false
set_option linter.unusedVariables false
namespace Go.Tel
structure Keeps (n m : Nat) (g' g'' : Ghost) : Prop where
  blk : ∀ id b, id < n → g'.blk id = some b → g''.blk id = some b
  dead : ∀ id, id < n → g'.dead id → g''.dead id
  tok : ∀ t l, t < m → g'.tok t = some l → g''.tok t = some l
  mp : ∀ id b, id < n → g'.mp id = some b → g''.mp id = some b
  mono : ∀ b o, g'.I b o → g''.I b o
def RefOk (bs : List (List AV)) (n : Nat) (g' g'' : Ghost) (w : World) : Prop :=
  ∀ id off len sz rows v, n ≤ id → V g' w (.ref id off len sz) v → refRows bs id off len sz = some rows → VP g''.I w (.list rows) v
theorem RefOk.nil {n : Nat} {g' g'' : Ghost} {w : World} : RefOk [] n g' g'' w := fun _ _ _ _ _ _ _ _ h => by grind[refRows]
theorem refRows_sound {E : Env} {g' g'' : Ghost} {w : World} {s : Sto} {n : Nat} (hI : Inv E g' w s) (hmono : ∀ b o, g'.I b o → g''.I b o) (hdrop : ∀ id b o, n ≤ id → g'.blk id = some b → g''.I b o) : RefOk s.bs n g' g'' w := by
  intro id off len sz rows v hn hv h
  unfold refRows at h
  split at h
  · rename_i cs hcs
    split at h
    · rename_i hc
      split at h
      · rename_i ps hps
        simp at h; subst h
        cases hv with
        | refD hd =>
          have := hI.deadE id hd
          grind
        | @ref _ _ _ _ b cap nn e hblk hcap hs hnn =>
          obtain ⟨cs', vs, e', k1, k2, kle, k3⟩ := hI.blk id b hblk
          rw [hcs] at k1; simp at k1; subst k1
          have hvl := (k3.drop off).take (len * sz)
          obtain ⟨q1, q2⟩ := toPVs_sound hvl hps
          have hul : (((vs.take cs.length).drop off).take (len * sz)).length = len * sz := by grind
          have hfl : Flat g'.I w (rowsBy sz len ps) sz (((vs.take cs.length).drop off).take (len * sz)) := flat_of_pvs hul q1 q2
          have hfl' : Flat g''.I w (rowsBy sz len ps) sz (((vs.take cs.length).drop off).take (len * sz)) := hfl.mono hmono (fun _ _ _ => rfl)
          have hra := hfl'.rowsAt (b := b) (o := off) (fun q _ => hdrop id b _ hn hblk) (fun q u hq => by grind[cell_of_heap])
          grind[VP.of_rows,rowsBy_length]
      grind
    grind
  grind
mutual
theorem close_sound {g' g'' : Ghost} {w : World} {bs : List (List AV)} {n m : Nat} (hI : RefOk bs n g' g'' w) (hk : Keeps n m g' g'') : ∀ (x y : AV) (v : Value), close bs n m x = some y → V g' w x v → V g'' w y v
  | .pv p, y, v, h, hv => by
    simp [close] at h; subst h
    cases hv with | pv hv => exact .pv (hv.mono hk.mono fun _ _ _ => rfl)
  | .ptr id off, y, v, h, hv => by
    simp only [close] at h
    split at h
    · rename_i hid
      simp at h; subst h
      cases hv with
      | ptr hb => exact .ptr (hk.blk _ _ hid hb)
      | ptrD hd => exact .ptrD (hk.dead _ hid hd)
    grind
  | .gptr gl off, y, v, h, hv => by
    simp [close] at h; subst h
    cases hv with | gptr => exact .gptr _ _
  | .eptr row off, y, v, h, hv => by
    simp [close] at h; subst h
    cases hv with
    | eptr _ f hr => exact .eptr _ f fun j c hj => ⟨hk.mono _ _ (hr j c hj).1, (hr j c hj).2.1, (hr j c hj).2.2.mono hk.mono fun _ _ _ => rfl⟩
  | .capped rows, y, v, h, hv => by
    simp [close] at h; subst h
    cases hv with | capped hr => exact .capped (hr.mono hk.mono fun _ _ _ => rfl)
  | .own t rows, y, v, h, hv => by
    simp only [close] at h
    split at h
    · rename_i ht
      simp at h; subst h
      cases hv with | own hr hcap htk hn hf => exact .own (hr.mono hk.mono fun _ _ _ => rfl) hcap (hk.tok _ _ ht htk) hn hf
    · simp at h; subst h
      cases hv with | own hr hcap htk hn hf => exact .pv (VP.of_rows (hr.mono hk.mono fun _ _ _ => rfl) hcap)
  | .ref id off len sz, y, v, h, hv => by
    simp only [close] at h
    split at h
    · rename_i hid
      simp at h; subst h
      cases hv with
      | ref hb hcap hs hn => exact .ref (hk.blk _ _ hid hb) hcap hs hn
      | refD hd => exact .refD (hk.dead _ hid hd)
    · rename_i hid
      split at h
      · rename_i rows hr
        simp at h; subst h
        exact .pv (hI _ _ _ _ _ _ (by omega) hv hr)
      grind
  | .func fn a b, y, v, h, hv => by
    simp only [close] at h
    split at h
    · rename_i a' b' ha hb
      simp at h; subst h
      obtain ⟨vs, us, rfl, h1, h2⟩ := hv.func_inv
      have k1 := closeL_sound hI hk a a' vs ha h1
      have k2 := closeL_sound hI hk b b' us hb h2
      exact .func k1.len k2.len k1.at_ k2.at_
    grind
  | .iface t x, y, v, h, hv => by
    simp only [close] at h
    split at h
    · rename_i x' hx
      simp at h; subst h
      cases hv with | iface hv => exact .iface (close_sound hI hk x x' _ hx hv)
    grind
  | .agg cs, y, v, h, hv => by
    simp only [close] at h
    split at h
    · rename_i cs' hx
      simp at h; subst h
      obtain ⟨vs, rfl, h1⟩ := hv.agg_inv
      exact V.agg' (closeL_sound hI hk cs cs' vs hx h1)
    grind
  | .tuple cs, y, v, h, hv => by
    simp only [close] at h
    split at h
    · rename_i cs' hx
      simp at h; subst h
      obtain ⟨vs, rfl, h1⟩ := hv.tuple_inv
      exact V.tuple' (closeL_sound hI hk cs cs' vs hx h1)
    grind
  | .junk, y, v, h, hv => by
    simp [close] at h; subst h
    cases hv with | junk => exact .junk
  | .mref id, y, v, h, hv => by
    simp only [close] at h
    split at h
    · rename_i hid
      simp at h; subst h
      cases hv with | mref hb => exact .mref (hk.mp _ _ hid hb)
    grind
  | .mobj _ _, y, v, h, hv => by grind[close]
  | .bz id t k, y, v, h, hv => by
    simp only [close] at h
    split at h
    · rename_i hid
      simp at h; subst h
      cases hv with
      | bz hb hs => exact .bz (hk.blk _ _ hid hb) hs
      | bzD hd => exact .bzD (hk.dead _ hid hd)
    grind
theorem closeL_sound {g' g'' : Ghost} {w : World} {bs : List (List AV)} {n m : Nat} (hI : RefOk bs n g' g'' w) (hk : Keeps n m g' g'') : ∀ (xs ys : List AV) (vs : List Value), closeL bs n m xs = some ys → VL g' w xs vs → VL g'' w ys vs
  | [], ys, vs, h, hv => by
    simp [closeL] at h; subst h
    rw [hv.nil_inv]
    exact .nil
  | x :: xs, ys, vs, h, hv => by
    simp only [closeL] at h
    split at h
    · rename_i c cs hc hcs
      simp at h; subst h
      obtain ⟨u, us, rfl, h1, h2⟩ := hv.cases
      exact .cons (close_sound hI hk x c u hc h1) (closeL_sound hI hk xs cs us hcs h2)
    grind
end
end Go.Tel
/-
  Returns, part 2: what is kept of a call's ghost.
-/
namespace Go.Tel
mutual
theorem noId_close (n m : Nat) : ∀ x : AV, noId x = true → close [] n m x = some x
  | .pv _, _ => by rfl
  | .ptr _ _, h => by grind[noId]
  | .gptr _ _, _ => by rfl
  | .eptr _ _, _ => by rfl
  | .capped _, _ => by rfl
  | .own _ _, h => by grind[noId]
  | .ref _ _ _ _, h => by grind[noId]
  | .func _ a b, h => by
    simp only [noId, Bool.and_eq_true] at h
    simp [close, noId_closeL n m a h.1, noId_closeL n m b h.2]
  | .iface _ x, h => by
    simp only [noId] at h
    simp [close, noId_close n m x h]
  | .agg cs, h => by
    simp only [noId] at h
    simp [close, noId_closeL n m cs h]
  | .tuple cs, h => by
    simp only [noId] at h
    simp [close, noId_closeL n m cs h]
  | .junk, _ => by rfl
  | .mref _, h => by grind[noId]
  | .mobj _ _, h => by grind[noId]
  | .bz _ _ _, h => by grind[noId]
theorem noId_closeL (n m : Nat) : ∀ xs : List AV, noIdL xs = true → closeL [] n m xs = some xs
  | [], _ => by rfl
  | x :: xs, h => by
    simp only [noIdL, Bool.and_eq_true] at h
    simp [closeL, noId_close n m x h.1, noId_closeL n m xs h.2]
end
theorem idsLtL_get {n : Nat} : ∀ {cs : List AV} {i : Nat} {c : AV}, idsLtL n cs = true → cs[i]? = some c → idsLt n c = true
  | [], _, _, _, h => by grind
  | x :: xs, 0, c, h, hc => by grind[idsLtL]
  | x :: xs, i + 1, c, h, hc => by
    simp only [idsLtL, Bool.and_eq_true] at h
    exact idsLtL_get h.2 (by assumption)
structure KeepsT (n : Nat) (g' g'' : Ghost) : Prop where
  blk : ∀ id b, id < n → g'.blk id = some b → g''.blk id = some b
  dead : ∀ id, id < n → g'.dead id → g''.dead id
  tok : ∀ t l, g'.tok t = some l → g''.tok t = some l
  mp : ∀ id b, id < n → g'.mp id = some b → g''.mp id = some b
  mono : ∀ b o, g'.I b o → g''.I b o
theorem V.keep {n : Nat} {g' g'' : Ghost} {w : World} (hk : KeepsT n g' g'') {x : AV} {v : Value} (h : V g' w x v) (hn : idsLt n x = true) : V g'' w x v := by
  induction h with
  | pv h => exact .pv (h.mono hk.mono fun _ _ _ => rfl)
  | ptr h => exact .ptr (hk.blk _ _ (by simp_all[idsLt]) h)
  | ptrD h => exact .ptrD (hk.dead _ (by simp_all[idsLt]) h)
  | gptr gl off => grind[gptr]
  | eptr off f h => exact .eptr off f fun j c hj => ⟨hk.mono _ _ (h j c hj).1, (h j c hj).2.1, (h j c hj).2.2.mono hk.mono fun _ _ _ => rfl⟩
  | capped h => exact .capped (h.mono hk.mono fun _ _ _ => rfl)
  | own h hcap ht hn' hf => exact .own (h.mono hk.mono fun _ _ _ => rfl) hcap (hk.tok _ _ ht) hn' hf
  | ref h hcap hs hn' => exact .ref (hk.blk _ _ (by simp_all[idsLt]) h) hcap hs hn'
  | refD h => exact .refD (hk.dead _ (by simp_all[idsLt]) h)
  | junk => exact .junk
  | mref h => exact .mref (hk.mp _ _ (by simp_all[idsLt]) h)
  | bz h hs => exact .bz (hk.blk _ _ (by simp_all[idsLt]) h) hs
  | bzD h => exact .bzD (hk.dead _ (by simp_all[idsLt]) h)
  | func hl hm _ _ ih ik =>
    grind[idsLt,func,idsLtL_get]
  | iface _ ih => grind[iface,idsLt]
  | agg hl _ ih => grind[agg,idsLtL_get,idsLt]
  | tuple hl _ ih => grind[tuple,idsLtL_get,idsLt]
theorem VL.keep {n : Nat} {g' g'' : Ghost} {w : World} (hk : KeepsT n g' g'') {xs : List AV} {vs : List Value} (h : VL g' w xs vs) (hn : idsLtL n xs = true) : VL g'' w xs vs :=
  ⟨h.len, fun i c v h1 h2 => (h.at_ i c v h1 h2).keep hk (idsLtL_get hn h1)⟩
def Ghost.withI (g : Ghost) (I : Nat → Nat → Prop) : Ghost := { g with I := I }
theorem ret_read {E : Env} {L : Lim} {g : Ghost} {w w' : World} {s : Sto} {I : Nat → Nat → Prop} (hI : Inv E g w s) (os : w'.os = w.os) (tape : w'.tape = w.tape) (output : w'.output = w.output) (size : w.heap.size ≤ w'.heap.size)
    (mono : ∀ b o, g.I b o → I b o) (keep : ∀ b, b < w.heap.size → w'.heap[b]? = w.heap[b]? ∧ ∀ o, I b o → g.I b o) (Ilt : ∀ b o, I b o → b < w'.heap.size)
    (glob : ∀ gl row, E.G gl = some row → ∀ j c, row[j]? = some c → ∃ v, I gl j ∧ w'.cell? ⟨gl, j, none⟩ = some v ∧ VP I w' c v) (globN : ∀ gl row, E.G gl = some row → I gl row.length ∧ w'.cell? ⟨gl, row.length, none⟩ = none) :
    Ext L g w (g.withI I) w' ∧ Inv E (g.withI I) w' s := by
  have ext : Ext L g w (g.withI I) w' := {
    os := os, tape := tape, output := output, size := size, mono := mono
    cell := fun b o hi => cell?_congr (keep b (hI.Ilt b o hi)).1 o
    blk := fun _ _ hb => .inl hb
    dead := fun _ hd => hd
    shape := fun _ b hb _ => shape_congr (keep b (hI.blkLt hb)).1
    tok := fun _ l hl => ⟨l, hl, .inl rfl⟩
    keepB := fun _ b hb _ => ⟨hb, (keep b (hI.blkLt hb)).1⟩
    keepT := fun _ l hl _ => ⟨hl, (keep l.b (hI.tokLt hl)).1, (keep l.b (hI.tokLt hl)).2⟩
    out := fun b hb _ _ _ => keep b hb
    mp := fun _ _ hb => hb
    keepM := fun _ b hb => ⟨fun _ => (keep b (hI.mpLt hb)).1, (keep b (hI.mpLt hb)).2⟩
    newM := fun id _ hb _ => ⟨id, hb⟩
    newB := fun id _ hb _ => ⟨id, hb⟩
    newT := fun _ l hl _ => ⟨l, hl, rfl⟩
    pend := fun _ hp => hp }
  refine ⟨ext, ?_⟩
  exact {
    blkN := hI.blkN, deadN := hI.deadN, deadE := hI.deadE, pendN := hI.pendN, allB := hI.allB, tokN := hI.tokN, tokL := hI.tokL, injB := hI.injB, injT := hI.injT, injBT := hI.injBT, Ilt := Ilt, glob := glob, globN := globN, mpX := hI.mpX, injM := hI.injM
    mp := hI.mpKeep (fun _ _ _ => rfl) (fun _ b hb => (keep b (hI.mpLt hb)).1)
    blk := fun id b hb => by
      obtain ⟨cs, vs, e, h1, h2, h3, h4⟩ := hI.blk id b hb
      exact ⟨cs, vs, e, h1, (keep b (hI.blkLt hb)).1.trans h2, h3, h4.mono ext⟩
    blkI := fun id b o hb hi => hI.blkI id b o hb ((keep b (hI.blkLt hb)).2 o hi)
    tok := fun t l hl => by
      obtain ⟨vs, e, h1, h2⟩ := hI.tok t l hl
      grind
    tokI := fun t l o hl hle hi => hI.tokI t l o hl hle ((keep l.b (hI.tokLt hl)).2 o hi) }
def Ghost.Ifrom (g : Ghost) (n : Nat) (b o : Nat) : Prop := g.I b o ∨ ∃ id, n ≤ id ∧ g.blk id = some b
theorem globFrom {E : Env} {g' : Ghost} {w' : World} {s' : Sto} {I : Nat → Nat → Prop} (hI : Inv E g' w' s') (hm : ∀ b o, g'.I b o → I b o) :
    ∀ gl row, E.G gl = some row → ∀ j c, row[j]? = some c → ∃ v, I gl j ∧ w'.cell? ⟨gl, j, none⟩ = some v ∧ VP I w' c v := fun gl row hr j c hj => by
  obtain ⟨v, h1, h2, h3⟩ := hI.glob gl row hr j c hj
  exact ⟨v, hm _ _ h1, h2, h3.mono hm fun _ _ _ => rfl⟩
theorem globNFrom {E : Env} {g' : Ghost} {w' : World} {s' : Sto} {I : Nat → Nat → Prop} (hI : Inv E g' w' s') (hm : ∀ b o, g'.I b o → I b o) :
    ∀ gl row, E.G gl = some row → I gl row.length ∧ w'.cell? ⟨gl, row.length, none⟩ = none := fun gl row hr => ⟨hm _ _ (hI.globN gl row hr).1, (hI.globN gl row hr).2⟩
theorem old_blk {E : Env} {L : Lim} {g g' : Ghost} {w w' : World} {s s' : Sto} (hI : Inv E g w s) (hx : Ext L g w g' w') (hI' : Inv E g' w' s') {id b : Nat} (hid : id < s.bs.length) (hb : g'.blk id = some b) : ∃ b0, g.blk id = some b0 ∧ b0 = b := by
  rcases hI.allB id hid with ⟨b0, h0⟩ | hd | hp | ⟨b0, hm⟩
  · rcases hx.blk id b0 h0 with k | k
    · grind
    · rw [g'.hd id k] at hb; grind
  · rw [g'.hd id (hx.dead id hd)] at hb; grind
  · rw [(hI'.pendN id (hx.pend id hp)).2.1] at hb; grind
  · rw [(hI'.mpX id b0 (hx.mp id b0 hm)).1] at hb; grind
theorem len_le {E : Env} {L : Lim} {g g' : Ghost} {w w' : World} {s s' : Sto} (hI : Inv E g w s) (hx : Ext L g w g' w') (hI' : Inv E g' w' s') {id : Nat} (hid : id < s.bs.length) : id < s'.bs.length := by
  rcases hI.allB id hid with ⟨b0, h0⟩ | hd | hp | ⟨b0, hm⟩
  · rcases hx.blk id b0 h0 with k | k
    · exact hI'.blkN id b0 k
    · exact hI'.deadN id k
  · exact hI'.deadN id (hx.dead id hd)
  · exact (hI'.pendN id (hx.pend id hp)).1
  · exact hI'.mpN (hx.mp id b0 hm)
theorem old_mp {E : Env} {L : Lim} {g g' : Ghost} {w w' : World} {s s' : Sto} (hI : Inv E g w s) (hx : Ext L g w g' w') (hI' : Inv E g' w' s') {id b : Nat} (hid : id < s.bs.length) (hb : g'.mp id = some b) : g.mp id = some b := by
  obtain ⟨x1, x2, x3⟩ := hI'.mpX id b hb
  rcases hI.allB id hid with ⟨b0, h0⟩ | hd | hp | ⟨b0, hm⟩
  · rcases hx.blk id b0 h0 with k | k
    all_goals grind
  · exact absurd (hx.dead id hd) x2
  · exact absurd (hx.pend id hp) x3
  · rw [hx.mp id b0 hm] at hb
    grind
theorem ret_rd {E : Env} {L L' : Lim} {g g' : Ghost} {w w' : World} {s s' : Sto} (hI : Inv E g w s) (hro : L'.ro = s.bs.length) (hrt : L'.rt = s.ts.length) (hx : Ext L' g w g' w') (hI' : Inv E g' w' s') :
    Ext L g w (g.withI (g'.Ifrom s.bs.length)) w' ∧ Inv E (g.withI (g'.Ifrom s.bs.length)) w' s ∧ Keeps s.bs.length s.ts.length g' (g.withI (g'.Ifrom s.bs.length)) ∧ RefOk s'.bs s.bs.length g' (g.withI (g'.Ifrom s.bs.length)) w' := by
  have hkb : ∀ id b, g.blk id = some b → g'.blk id = some b ∧ w'.heap[b]? = w.heap[b]? := fun id b hb => hx.keepB id b hb (by rw [hro]; exact hI.blkN id b hb)
  have hkt : ∀ t l, g.tok t = some l → g'.tok t = some l ∧ w'.heap[l.b]? = w.heap[l.b]? ∧ ∀ o, g'.I l.b o → g.I l.b o := fun t l hl => hx.keepT t l hl (by
    have := hI.tokL t l hl
    grind)
  have hmono : ∀ b o, g'.I b o → g'.Ifrom s.bs.length b o := fun _ _ h => .inl h
  have keep : ∀ b, b < w.heap.size → w'.heap[b]? = w.heap[b]? ∧ ∀ o, g'.Ifrom s.bs.length b o → g.I b o := fun b hb => by
    by_cases h1 : ∃ id, g.blk id = some b
    · obtain ⟨id, h1⟩ := h1
      obtain ⟨a1, a2⟩ := hkb id b h1
      refine ⟨a2, fun o ho => ?_⟩
      rcases ho with ho | ⟨id', h2, h3⟩
      · exact absurd ho (hI'.blkI id b o a1)
      · have := hI'.injB id id' b a1 h3
        have := hI.blkN id b h1
        omega
    · have h1' : ∀ id, g.blk id ≠ some b := fun id e => h1 ⟨id, e⟩
      have hno : ∀ id', g'.blk id' ≠ some b := fun id' h3 => by
        obtain ⟨id0, h4⟩ := hx.newB id' b h3 hb
        grind
      by_cases hm : ∃ id, g.mp id = some b
      · obtain ⟨id, hm⟩ := hm
        obtain ⟨a1, a2⟩ := hx.keepM id b hm
        refine ⟨a1 (by rw [hro]; exact hI.mpN hm), fun o ho => ?_⟩
        rcases ho with ho | ⟨id', _, h3⟩
        all_goals grind
      have hm' : ∀ id, g.mp id ≠ some b := fun id e => hm ⟨id, e⟩
      by_cases h2 : ∃ t l, g.tok t = some l ∧ l.b = b
      · obtain ⟨t, l, h2, rfl⟩ := h2
        obtain ⟨_, a2, a3⟩ := hkt t l h2
        refine ⟨a2, fun o ho => ?_⟩
        rcases ho with ho | ⟨id', _, h3⟩
        all_goals grind
      · obtain ⟨a1, a2⟩ := hx.out b hb h1' (fun t l hl e => h2 ⟨t, l, hl, e⟩) hm'
        refine ⟨a1, fun o ho => ?_⟩
        rcases ho with ho | ⟨id', _, h3⟩
        all_goals grind
  have hIlt : ∀ b o, g'.Ifrom s.bs.length b o → b < w'.heap.size := fun b o ho => by
    rcases ho with ho | ⟨id', _, h3⟩
    · exact hI'.Ilt b o ho
    · exact hI'.blkLt h3
  obtain ⟨r1, r2⟩ := ret_read (L := L) hI hx.os hx.tape hx.output hx.size (fun b o h => hmono b o (hx.mono b o h)) keep hIlt (globFrom hI' hmono) (globNFrom hI' hmono)
  refine ⟨r1, r2, ⟨fun id b hid hb => ?_, fun id hid hd => ?_, fun t l ht hl => ?_, fun id b hid hb => old_mp hI hx hI' hid hb, hmono⟩, refRows_sound hI' hmono fun id b o hid hb => .inr ⟨id, hid, hb⟩⟩
  · obtain ⟨b0, h0, rfl⟩ := old_blk hI hx hI' hid hb
    exact h0
  · rcases hI.allB id hid with ⟨b0, h0⟩ | hd' | hp | ⟨b0, hm⟩
    · have := (hkb id b0 h0).1
      rw [g'.hd id hd] at this; grind
    · exact hd'
    · exact absurd hd (hI'.pendN id (hx.pend id hp)).2.2
    · exact absurd hd (hI'.mpX id b0 (hx.mp id b0 hm)).2.1
  · have hs : s.ts[t]? = some (s.ts[t].1, s.ts[t].2) := by grind
    obtain ⟨l0, h0, _⟩ := hI.tokN t _ _ hs
    have := (hkt t l0 h0).1
    rw [hl] at this; simp at this; subst this
    exact h0
def Ghost.bare (I : Nat → Nat → Prop) : Ghost := ⟨fun _ => none, fun _ => False, fun _ => False, fun _ => none, fun _ => none, I, fun _ h => h.elim⟩
theorem Inv.bare {E : Env} {g : Ghost} {w : World} {s : Sto} (h : Inv E g w s) : Inv E (Ghost.bare g.I) w ⟨[], []⟩ where
  blkN := fun _ _ h => by grind[Ghost.bare]
  deadN := fun _ h => by grind[Ghost.bare]
  blk := fun _ _ h => by grind[Ghost.bare]
  blkI := fun _ _ _ h => by grind[Ghost.bare]
  deadE := fun _ h => by grind[Ghost.bare]
  pendN := fun _ h => by grind[Ghost.bare]
  allB := fun _ h => by grind
  mp := fun _ _ h => by grind[Ghost.bare]
  mpX := fun _ _ h => by grind[Ghost.bare]
  injM := fun _ _ _ h => by grind[Ghost.bare]
  tokN := fun _ _ _ h => by grind
  tokL := fun _ _ h => by grind[Ghost.bare]
  tok := fun _ _ h => by grind[Ghost.bare]
  tokI := fun _ _ _ h => by grind[Ghost.bare]
  injB := fun _ _ _ h => by grind[Ghost.bare]
  injT := fun _ _ _ _ h => by grind[Ghost.bare]
  injBT := fun _ _ _ _ h => by grind[Ghost.bare]
  Ilt := h.Ilt
  glob := h.glob
  globN := h.globN
theorem Keeps.bare {g : Ghost} : Keeps 0 0 g (Ghost.bare g.I) := ⟨fun _ _ h => absurd h (Nat.not_lt_zero _), fun _ h => absurd h (Nat.not_lt_zero _), fun _ _ h => absurd h (Nat.not_lt_zero _), fun _ _ h => absurd h (Nat.not_lt_zero _), fun _ _ h => h⟩
theorem ret_pure {E : Env} {L L' : Lim} {g g' : Ghost} {w w' : World} {s s' : Sto} (hI : Inv E g w s) (hx : Ext L' (Ghost.bare g.I) w g' w') (hI' : Inv E g' w' s') :
    Ext L g w (g.withI (g'.Ifrom 0)) w' ∧ Inv E (g.withI (g'.Ifrom 0)) w' s ∧ Keeps 0 0 g' (g.withI (g'.Ifrom 0)) ∧ RefOk s'.bs 0 g' (g.withI (g'.Ifrom 0)) w' := by
  have hmono : ∀ b o, g'.I b o → g'.Ifrom 0 b o := fun _ _ h => .inl h
  have keep : ∀ b, b < w.heap.size → w'.heap[b]? = w.heap[b]? ∧ ∀ o, g'.Ifrom 0 b o → g.I b o := fun b hb => by
    obtain ⟨a1, a2⟩ := hx.out b hb (fun _ e => by grind[Ghost.bare]) (fun _ _ e => by grind[Ghost.bare]) (fun _ e => by grind[Ghost.bare])
    refine ⟨a1, fun o ho => ?_⟩
    rcases ho with ho | ⟨id', _, h3⟩
    · exact a2 o ho
    · obtain ⟨id0, h4⟩ := hx.newB id' b h3 hb
      grind[Ghost.bare]
  have hIlt : ∀ b o, g'.Ifrom 0 b o → b < w'.heap.size := fun b o ho => by
    rcases ho with ho | ⟨id', _, h3⟩
    · exact hI'.Ilt b o ho
    · exact hI'.blkLt h3
  obtain ⟨r1, r2⟩ := ret_read (L := L) hI hx.os hx.tape hx.output hx.size (fun b o h => hmono b o (hx.mono b o h)) keep hIlt (globFrom hI' hmono) (globNFrom hI' hmono)
  exact ⟨r1, r2, ⟨fun _ _ h => absurd h (Nat.not_lt_zero _), fun _ h => absurd h (Nat.not_lt_zero _), fun _ _ h => absurd h (Nat.not_lt_zero _), fun _ _ h => absurd h (Nat.not_lt_zero _), hmono⟩, refRows_sound hI' hmono fun id b o hid hb => .inr ⟨id, hid, hb⟩⟩
end Go.Tel
/-
  Returns, part 3: a call that may write; its new blocks are forgotten, save perhaps one.
-/
namespace Go.Tel
def Ghost.cut (g : Ghost) (n : Nat) (r : Option Nat) : Ghost where
  blk id := if id < n then g.blk id else if id = n then r.bind g.blk else none
  dead id := id < n ∧ g.dead id
  pend id := id < n ∧ g.pend id
  tok := g.tok
  mp id := if id < n then g.mp id else none
  I b o := g.I b o ∨ ∃ id, n ≤ id ∧ r ≠ some id ∧ g.blk id = some b
  hd id h := by simp [h.1, g.hd id h.2]
theorem cut_blk {g : Ghost} {n : Nat} {r : Option Nat} {id b : Nat} (h : (g.cut n r).blk id = some b) : (id < n ∧ g.blk id = some b) ∨ (id = n ∧ ∃ id0, r = some id0 ∧ g.blk id0 = some b) := by
  simp only [Ghost.cut] at h
  split at h
  · grind
  · split at h
    · rename_i hid
      cases r with
      | none => grind
      | some id0 => grind
    grind
theorem cut_old {g : Ghost} {n : Nat} {r : Option Nat} {id b : Nat} (hid : id < n) (h : g.blk id = some b) : (g.cut n r).blk id = some b := by grind[Ghost.cut]
theorem cut_mp {g : Ghost} {n : Nat} {r : Option Nat} {id b : Nat} (h : (g.cut n r).mp id = some b) : id < n ∧ g.mp id = some b := by grind[Ghost.cut]
theorem cut_oldM {g : Ghost} {n : Nat} {r : Option Nat} {id b : Nat} (hid : id < n) (h : g.mp id = some b) : (g.cut n r).mp id = some b := by grind[Ghost.cut]
theorem KeepsT.cut {g : Ghost} {n : Nat} {r : Option Nat} : KeepsT n g (g.cut n r) :=
  ⟨fun _ _ hid hb => cut_old hid hb, fun _ hid hd => ⟨hid, hd⟩, fun _ _ h => h, fun _ _ hid hb => cut_oldM hid hb, fun _ _ h => .inl h⟩
def cutS (s : Sto) (n : Nat) (r : Option Nat) : Sto := ⟨s.bs.take n ++ (match r with | none => [] | some id => (s.bs[id]?).toList), s.ts⟩
theorem ret_im {E : Env} {L L' : Lim} {g g' : Ghost} {w w' : World} {s s' : Sto} {r : Option Nat} (hI : Inv E g w s) (hro : L'.ro = L.ro) (hrt : L'.rt = L.rt) (hx : Ext L' g w g' w') (hI' : Inv E g' w' s')
    (hids : (s'.bs.take s.bs.length).all (idsLtL s.bs.length) = true)
    (hr : ∀ id, r = some id → s.bs.length ≤ id ∧ (∃ b, g'.blk id = some b) ∧ ∀ cs, s'.bs[id]? = some cs → idsLtL s.bs.length cs = true) :
    Ext L g w (g'.cut s.bs.length r) w' ∧ Inv E (g'.cut s.bs.length r) w' (cutS s' s.bs.length r) := by
  have hle : s.bs.length ≤ s'.bs.length := by
    rcases Nat.lt_or_ge 0 s.bs.length with k | k
    · have := len_le hI hx hI' (id := s.bs.length - 1) (by omega); omega
    omega
  have htl : (s'.bs.take s.bs.length).length = s.bs.length := by grind
  have hbN : ∀ id b, g.blk id = some b → id < s.bs.length := hI.blkN
  have hno : ∀ b o, (∀ id, g'.blk id = some b → id < s.bs.length) → (g'.cut s.bs.length r).I b o → g'.I b o := fun b o h hi => by
    rcases hi with hi | ⟨id, h1, _, h3⟩
    all_goals grind
  have get : ∀ id, id < s.bs.length → (cutS s' s.bs.length r).bs[id]? = s'.bs[id]? := fun id hid => by simp[*,cutS,List.getElem?_append_left]
  have ids : ∀ id cs, id < s.bs.length → s'.bs[id]? = some cs → idsLtL s.bs.length cs = true := fun id cs hid hcs => by
    rw [List.all_eq_true] at hids
    refine hids cs (List.mem_of_getElem? (i := id) ?_)
    grind
  have ext : Ext L g w (g'.cut s.bs.length r) w' := {
    os := hx.os, tape := hx.tape, output := hx.output, size := hx.size
    mono := fun b o hi => .inl (hx.mono b o hi)
    cell := hx.cell
    blk := fun id b hb => by
      rcases hx.blk id b hb with k | k
      · grind[cut_old]
      · exact .inr ⟨hbN id b hb, k⟩
    dead := fun id hd => ⟨hI.deadN id hd, hx.dead id hd⟩
    shape := fun id b hb hb' => by
      rcases cut_blk hb' with ⟨_, k⟩ | ⟨k, _⟩
      · exact hx.shape id b hb k
      grind
    tok := hx.tok
    keepB := fun id b hb hlt => by
      obtain ⟨a1, a2⟩ := hx.keepB id b hb (by omega)
      grind[cut_old]
    keepT := fun t l hl hlt => by
      obtain ⟨a1, a2, a3⟩ := hx.keepT t l hl (by omega)
      refine ⟨a1, a2, fun o ho => a3 o ?_⟩
      rcases ho with ho | ⟨id, _, _, h3⟩
      · omega
      · exact absurd rfl (hI'.injBT id l.b t l h3 a1)
    mp := fun id b hb => cut_oldM (hI.mpN hb) (hx.mp id b hb)
    keepM := fun id b hb => by
      obtain ⟨a1, a2⟩ := hx.keepM id b hb
      refine ⟨fun hlt => a1 (by omega), fun o ho => a2 o ?_⟩
      rcases ho with ho | ⟨id', _, _, h3⟩
      · omega
      · exact absurd h3 (hI'.mpB (hx.mp id b hb))
    newM := fun id b hb hlt => hx.newM id b (cut_mp hb).2 hlt
    out := fun b hb h1 h2 h3 => by
      obtain ⟨a1, a2⟩ := hx.out b hb h1 h2 h3
      refine ⟨a1, fun o ho => a2 o ?_⟩
      rcases ho with ho | ⟨id, _, _, h3⟩
      · omega
      · obtain ⟨id0, h4⟩ := hx.newB id b h3 hb
        grind
    newB := fun id b hb hlt => by
      rcases cut_blk hb with ⟨_, k⟩ | ⟨_, id0, _, k⟩
      · exact hx.newB id b k hlt
      · exact hx.newB id0 b k hlt
    newT := hx.newT
    pend := fun id hp => ⟨(hI.pendN id hp).1, hx.pend id hp⟩ }
  have hlast : ∀ id0, r = some id0 → ∃ cs, s'.bs[id0]? = some cs ∧ (cutS s' s.bs.length r).bs[s.bs.length]? = some cs ∧ (cutS s' s.bs.length r).bs.length = s.bs.length + 1 := fun id0 e => by
    obtain ⟨_, ⟨b, hb⟩, _⟩ := hr id0 e
    have hlt := hI'.blkN id0 b hb
    simp[*,cutS]
  have hlen : s.bs.length ≤ (cutS s' s.bs.length r).bs.length := by grind
  refine ⟨ext, ?_⟩
  exact {
    blkN := fun id b hb => by
      rcases cut_blk hb with ⟨k, _⟩ | ⟨rfl, id0, e, _⟩
      all_goals grind
    deadN := fun id hd => by have := hd.1; omega
    blk := fun id b hb => by
      rcases cut_blk hb with ⟨k, hb⟩ | ⟨rfl, id0, e, hb⟩
      · obtain ⟨cs, vs, e, h1, h2, h3, h4⟩ := hI'.blk id b hb
        exact ⟨cs, vs, e, (get id k).trans h1, h2, h3, h4.keep KeepsT.cut (ids id cs k h1)⟩
      · obtain ⟨cs, vs, e', h1, h2, h3, h4⟩ := hI'.blk id0 b hb
        obtain ⟨cs', k1, k2, _⟩ := hlast id0 e
        rw [h1] at k1; simp at k1; subst k1
        exact ⟨cs, vs, e', k2, h2, h3, h4.keep KeepsT.cut ((hr id0 e).2.2 cs h1)⟩
    blkI := fun id b o hb hi => by
      rcases cut_blk hb with ⟨k, hb⟩ | ⟨rfl, id0, e, hb⟩
      · rcases hi with hi | ⟨id', h1, _, h3⟩
        · exact hI'.blkI id b o hb hi
        · have := hI'.injB id id' b hb h3; omega
      · rcases hi with hi | ⟨id', h1, h2, h3⟩
        · exact hI'.blkI id0 b o hb hi
        · have := hI'.injB id0 id' b hb h3
          grind
    deadE := fun id hd => (get id hd.1).trans (hI'.deadE id hd.2)
    pendN := fun id hp => by
      obtain ⟨a, b, c⟩ := hI'.pendN id hp.2
      grind[Ghost.cut]
    allB := fun id hid => by
      by_cases k : id < s.bs.length
      · rcases hI'.allB id (by omega) with ⟨b, hb⟩ | hd | hp | ⟨b, hm⟩
        · grind[cut_old]
        · exact .inr (.inl ⟨k, hd⟩)
        · exact .inr (.inr (.inl ⟨k, hp⟩))
        grind[cut_oldM]
      · cases e : r with
        | none =>
          grind[cutS]
        | some id0 =>
          obtain ⟨_, _, _, h3⟩ := hlast id0 e
          rw [h3] at hid
          have : id = s.bs.length := by omega
          simp[*,Ghost.cut]
    mp := fun id b hb => by
      obtain ⟨k, hm⟩ := cut_mp hb
      obtain ⟨es, c, h1, h2⟩ := hI'.mp id b hm
      grind
    mpX := fun id b hb => by
      obtain ⟨k, hm⟩ := cut_mp hb
      obtain ⟨a1, a2, a3⟩ := hI'.mpX id b hm
      grind[Ghost.cut]
    injM := fun id id' b hb hb' => hI'.injM id id' b (cut_mp hb).2 (cut_mp hb').2
    tokN := hI'.tokN
    tokL := hI'.tokL
    tok := hI'.tok
    tokI := fun t l o hl hle hi => by
      rcases hi with hi | ⟨id', _, _, h3⟩
      · exact hI'.tokI t l o hl hle hi
      · exact absurd rfl (hI'.injBT id' l.b t l h3 hl)
    injB := fun id id' b hb hb' => by
      rcases cut_blk hb with ⟨k, hb⟩ | ⟨rfl, id0, e, hb⟩
      · rcases cut_blk hb' with ⟨k', hb'⟩ | ⟨rfl, id0, e, hb'⟩
        · exact hI'.injB id id' b hb hb'
        · have := hI'.injB id id0 b hb hb'
          grind
      · rcases cut_blk hb' with ⟨k', hb'⟩ | ⟨rfl, _⟩
        · have := hI'.injB id' id0 b hb' hb
          grind
        rfl
    injT := hI'.injT
    injBT := fun id b t l hb hl => by
      rcases cut_blk hb with ⟨_, hb⟩ | ⟨_, id0, _, hb⟩
      · exact hI'.injBT id b t l hb hl
      · exact hI'.injBT id0 b t l hb hl
    Ilt := fun b o hi => by
      rcases hi with hi | ⟨id, _, _, h3⟩
      · exact hI'.Ilt b o hi
      · exact hI'.blkLt h3
    glob := globFrom hI' fun _ _ h => .inl h
    globN := globNFrom hI' fun _ _ h => .inl h }
theorem keepA_sound {E : Env} {L L' : Lim} {g g' : Ghost} {w w' : World} {s s' s'' : Sto} {r : Bool} {v x : AV} {u : Value} (hI : Inv E g w s) (hro : L'.ro = L.ro) (hrt : L'.rt = L.rt) (hx : Ext L' g w g' w') (hI' : Inv E g' w' s')
    (hv : V g' w' x u) (h : keepA r s.bs.length x s' = some (v, s'')) : ∃ g'', V g'' w' v u ∧ Ext L g w g'' w' ∧ Inv E g'' w' s'' := by
  unfold keepA at h
  cases hids : (s'.bs.take s.bs.length).all (idsLtL s.bs.length) with
  | false => grind
  | true =>
    rw [hids] at h
    simp only [cond_true] at h
    split at h
    · rename_i id off len sz hnr
      unfold newRef at hnr
      split at hnr
      · rename_i id' off' len' sz'
        cases hc : (r && Nat.ble s.bs.length id') with
        | false => grind
        | true =>
          rw [hc] at hnr
          simp at hnr
          obtain ⟨rfl, rfl, rfl, rfl⟩ := hnr
          simp at hc
          split at h
          · rename_i c cs hcs
            cases hl : idsLtL s.bs.length (c :: cs) with
            | false => grind
            | true =>
              rw [hl] at h
              simp only [cond_true, Option.some.injEq, Prod.mk.injEq] at h
              obtain ⟨rfl, rfl⟩ := h
              cases hv with
              | refD hd => have := hI'.deadE _ hd; grind
              | @ref _ _ _ _ b cap n e hblk hcap hs hn =>
                obtain ⟨r1, r2⟩ := ret_im (L := L) (r := some id') hI hro hrt hx hI' hids (fun id e => by grind)
                refine ⟨_, ?_, r1, ?_⟩
                · exact .ref (by grind[Ghost.cut]) hcap hs hn
                grind[cutS]
          grind
      grind
    · split at h
      · rename_i y hy
        simp only [Option.some.injEq, Prod.mk.injEq] at h
        obtain ⟨rfl, rfl⟩ := h
        obtain ⟨r1, r2⟩ := ret_im (L := L) (r := none) hI hro hrt hx hI' hids (fun id e => by grind)
        refine ⟨_, ?_, r1, ?_⟩
        · have hk : Keeps s.bs.length s'.ts.length g' (g'.cut s.bs.length none) := ⟨fun _ _ a b => cut_old a b, fun _ a b => ⟨a, b⟩, fun _ _ _ h => h, fun _ _ a b => cut_oldM a b, fun _ _ h => .inl h⟩
          have ho : RefOk s'.bs s.bs.length g' (g'.cut s.bs.length none) w' := refRows_sound hI' hk.mono fun id b o h1 h2 => Or.inr ⟨id, h1, by simp, h2⟩
          grind[close_sound]
        grind[cutS]
      grind
end Go.Tel
