/-
  Returns, part 1: what a value is for one who keeps only the first blocks and tokens.
-/
import Derived.Test.YtedmfigcajdkbaaGreatDoorTelZ
namespace Go.Tel

/-- g'' keeps of g' the blocks below n and the tokens below m; all else is never written again. -/
structure Keeps (n m : Nat) (g' g'' : Ghost) : Prop where
  blk : ∀ id b, id < n → g'.blk id = some b → g''.blk id = some b
  dead : ∀ id, id < n → g'.dead id → g''.dead id
  tok : ∀ t l, t < m → g'.tok t = some l → g''.tok t = some l
  mp : ∀ id b, id < n → g'.mp id = some b → g''.mp id = some b
  mono : ∀ b o, g'.I b o → g''.I b o

/-- A view into a block that is not kept, as rows. -/
def RefOk (bs : List (List AV)) (n : Nat) (g' g'' : Ghost) (w : World) : Prop :=
  ∀ id off len sz rows v, n ≤ id → V g' w (.ref id off len sz) v → refRows bs id off len sz = some rows → VP g''.I w (.list rows) v

theorem RefOk.nil {n : Nat} {g' g'' : Ghost} {w : World} : RefOk [] n g' g'' w := fun _ _ _ _ _ _ _ _ h => by simp [refRows] at h

theorem refRows_sound {E : Env} {g' g'' : Ghost} {w : World} {s : Sto} {n : Nat} (hI : Inv E g' w s) (hmono : ∀ b o, g'.I b o → g''.I b o) (hdrop : ∀ id b o, n ≤ id → g'.blk id = some b → g''.I b o) : RefOk s.bs n g' g'' w := by
  intro id off len sz rows v hn hv h
  unfold refRows at h
  split at h
  · rename_i cs hcs
    split at h
    · rename_i hc
      split at h
      · rename_i ps hps
        simp at h; subst h
        cases hv with
        | refD hd =>
          have := hI.deadE id hd
          rw [hcs] at this; simp at this; subst this
          simp at hc
        | @ref _ _ _ _ b cap nn e hblk hcap hs hnn =>
          obtain ⟨cs', vs, e', k1, k2, kle, k3⟩ := hI.blk id b hblk
          rw [hcs] at k1; simp at k1; subst k1
          have hvl := (k3.drop off).take (len * sz)
          obtain ⟨q1, q2⟩ := toPVs_sound hvl hps
          have hul : (((vs.take cs.length).drop off).take (len * sz)).length = len * sz := by simp; omega
          have hfl : Flat g'.I w (rowsBy sz len ps) sz (((vs.take cs.length).drop off).take (len * sz)) := flat_of_pvs hul q1 q2
          have hfl' : Flat g''.I w (rowsBy sz len ps) sz (((vs.take cs.length).drop off).take (len * sz)) := hfl.mono hmono (fun _ _ _ => rfl)
          have hra := hfl'.rowsAt (b := b) (o := off) (fun q _ => hdrop id b _ hn hblk) (fun q u hq => by
            rw [cell_of_heap k2]
            rw [List.getElem?_take] at hq
            split at hq
            · rw [List.getElem?_drop, List.getElem?_take] at hq
              split at hq
              · exact hq
              · simp at hq
            · simp at hq)
          have := VP.of_rows (cap := cap) hra (by rw [rowsBy_length]; exact hcap)
          rw [rowsBy_length] at this
          exact this
      · simp at h
    · simp at h
  · simp at h

mutual
theorem close_sound {g' g'' : Ghost} {w : World} {bs : List (List AV)} {n m : Nat} (hI : RefOk bs n g' g'' w) (hk : Keeps n m g' g'') : ∀ (x y : AV) (v : Value), close bs n m x = some y → V g' w x v → V g'' w y v
  | .pv p, y, v, h, hv => by
    simp [close] at h; subst h
    cases hv with | pv hv => exact .pv (hv.mono hk.mono fun _ _ _ => rfl)
  | .ptr id off, y, v, h, hv => by
    simp only [close] at h
    split at h
    · rename_i hid
      simp at h; subst h
      cases hv with
      | ptr hb => exact .ptr (hk.blk _ _ hid hb)
      | ptrD hd => exact .ptrD (hk.dead _ hid hd)
    · simp at h
  | .gptr gl off, y, v, h, hv => by
    simp [close] at h; subst h
    cases hv with | gptr => exact .gptr _ _
  | .eptr row off, y, v, h, hv => by
    simp [close] at h; subst h
    cases hv with
    | eptr _ f hr => exact .eptr _ f fun j c hj => ⟨hk.mono _ _ (hr j c hj).1, (hr j c hj).2.1, (hr j c hj).2.2.mono hk.mono fun _ _ _ => rfl⟩
  | .capped rows, y, v, h, hv => by
    simp [close] at h; subst h
    cases hv with | capped hr => exact .capped (hr.mono hk.mono fun _ _ _ => rfl)
  | .own t rows, y, v, h, hv => by
    simp only [close] at h
    split at h
    · rename_i ht
      simp at h; subst h
      cases hv with | own hr hcap htk hn hf => exact .own (hr.mono hk.mono fun _ _ _ => rfl) hcap (hk.tok _ _ ht htk) hn hf
    · simp at h; subst h
      cases hv with | own hr hcap htk hn hf => exact .pv (VP.of_rows (hr.mono hk.mono fun _ _ _ => rfl) hcap)
  | .ref id off len sz, y, v, h, hv => by
    simp only [close] at h
    split at h
    · rename_i hid
      simp at h; subst h
      cases hv with
      | ref hb hcap hs hn => exact .ref (hk.blk _ _ hid hb) hcap hs hn
      | refD hd => exact .refD (hk.dead _ hid hd)
    · rename_i hid
      split at h
      · rename_i rows hr
        simp at h; subst h
        exact .pv (hI _ _ _ _ _ _ (by omega) hv hr)
      · simp at h
  | .func fn a b, y, v, h, hv => by
    simp only [close] at h
    split at h
    · rename_i a' b' ha hb
      simp at h; subst h
      obtain ⟨vs, us, rfl, h1, h2⟩ := hv.func_inv
      have k1 := closeL_sound hI hk a a' vs ha h1
      have k2 := closeL_sound hI hk b b' us hb h2
      exact .func k1.len k2.len k1.at_ k2.at_
    · simp at h
  | .iface t x, y, v, h, hv => by
    simp only [close] at h
    split at h
    · rename_i x' hx
      simp at h; subst h
      cases hv with | iface hv => exact .iface (close_sound hI hk x x' _ hx hv)
    · simp at h
  | .agg cs, y, v, h, hv => by
    simp only [close] at h
    split at h
    · rename_i cs' hx
      simp at h; subst h
      obtain ⟨vs, rfl, h1⟩ := hv.agg_inv
      exact V.agg' (closeL_sound hI hk cs cs' vs hx h1)
    · simp at h
  | .tuple cs, y, v, h, hv => by
    simp only [close] at h
    split at h
    · rename_i cs' hx
      simp at h; subst h
      obtain ⟨vs, rfl, h1⟩ := hv.tuple_inv
      exact V.tuple' (closeL_sound hI hk cs cs' vs hx h1)
    · simp at h
  | .junk, y, v, h, hv => by
    simp [close] at h; subst h
    cases hv with | junk => exact .junk
  | .mref id, y, v, h, hv => by
    simp only [close] at h
    split at h
    · rename_i hid
      simp at h; subst h
      cases hv with | mref hb => exact .mref (hk.mp _ _ hid hb)
    · simp at h
  | .mobj _ _, y, v, h, hv => by simp [close] at h
theorem closeL_sound {g' g'' : Ghost} {w : World} {bs : List (List AV)} {n m : Nat} (hI : RefOk bs n g' g'' w) (hk : Keeps n m g' g'') : ∀ (xs ys : List AV) (vs : List Value), closeL bs n m xs = some ys → VL g' w xs vs → VL g'' w ys vs
  | [], ys, vs, h, hv => by
    simp [closeL] at h; subst h
    rw [hv.nil_inv]
    exact .nil
  | x :: xs, ys, vs, h, hv => by
    simp only [closeL] at h
    split at h
    · rename_i c cs hc hcs
      simp at h; subst h
      obtain ⟨u, us, rfl, h1, h2⟩ := hv.cases
      exact .cons (close_sound hI hk x c u hc h1) (closeL_sound hI hk xs cs us hcs h2)
    · simp at h
end

end Go.Tel
