/-
  Returns, part 2: what is kept of a call's ghost.
-/
import Derived.Test.YtedmfigcajdkbaaGreatDoorTenA
namespace Go.Tel

mutual
theorem noId_close (n m : Nat) : ∀ x : AV, noId x = true → close [] n m x = some x
  | .pv _, _ => by simp [close]
  | .ptr _ _, h => by simp [noId] at h
  | .gptr _ _, _ => by simp [close]
  | .eptr _ _, _ => by simp [close]
  | .capped _, _ => by simp [close]
  | .own _ _, h => by simp [noId] at h
  | .ref _ _ _ _, h => by simp [noId] at h
  | .func _ a b, h => by
    simp only [noId, Bool.and_eq_true] at h
    simp [close, noId_closeL n m a h.1, noId_closeL n m b h.2]
  | .iface _ x, h => by
    simp only [noId] at h
    simp [close, noId_close n m x h]
  | .agg cs, h => by
    simp only [noId] at h
    simp [close, noId_closeL n m cs h]
  | .tuple cs, h => by
    simp only [noId] at h
    simp [close, noId_closeL n m cs h]
  | .junk, _ => by simp [close]
  | .mref _, h => by simp [noId] at h
  | .mobj _ _, h => by simp [noId] at h
theorem noId_closeL (n m : Nat) : ∀ xs : List AV, noIdL xs = true → closeL [] n m xs = some xs
  | [], _ => by simp [closeL]
  | x :: xs, h => by
    simp only [noIdL, Bool.and_eq_true] at h
    simp [closeL, noId_close n m x h.1, noId_closeL n m xs h.2]
end

theorem idsLtL_get {n : Nat} : ∀ {cs : List AV} {i : Nat} {c : AV}, idsLtL n cs = true → cs[i]? = some c → idsLt n c = true
  | [], _, _, _, h => by simp at h
  | x :: xs, 0, c, h, hc => by
    simp only [idsLtL, Bool.and_eq_true] at h
    simp at hc; subst hc; exact h.1
  | x :: xs, i + 1, c, h, hc => by
    simp only [idsLtL, Bool.and_eq_true] at h
    exact idsLtL_get h.2 (by simpa using hc)

/-- g'' keeps of g' the blocks below n and all tokens. -/
structure KeepsT (n : Nat) (g' g'' : Ghost) : Prop where
  blk : ∀ id b, id < n → g'.blk id = some b → g''.blk id = some b
  dead : ∀ id, id < n → g'.dead id → g''.dead id
  tok : ∀ t l, g'.tok t = some l → g''.tok t = some l
  mp : ∀ id b, id < n → g'.mp id = some b → g''.mp id = some b
  mono : ∀ b o, g'.I b o → g''.I b o

theorem V.keep {n : Nat} {g' g'' : Ghost} {w : World} (hk : KeepsT n g' g'') {x : AV} {v : Value} (h : V g' w x v) (hn : idsLt n x = true) : V g'' w x v := by
  induction h with
  | pv h => exact .pv (h.mono hk.mono fun _ _ _ => rfl)
  | ptr h => exact .ptr (hk.blk _ _ (by simpa [idsLt] using hn) h)
  | ptrD h => exact .ptrD (hk.dead _ (by simpa [idsLt] using hn) h)
  | gptr gl off => exact .gptr gl off
  | eptr off f h => exact .eptr off f fun j c hj => ⟨hk.mono _ _ (h j c hj).1, (h j c hj).2.1, (h j c hj).2.2.mono hk.mono fun _ _ _ => rfl⟩
  | capped h => exact .capped (h.mono hk.mono fun _ _ _ => rfl)
  | own h hcap ht hn' hf => exact .own (h.mono hk.mono fun _ _ _ => rfl) hcap (hk.tok _ _ ht) hn' hf
  | ref h hcap hs hn' => exact .ref (hk.blk _ _ (by simpa [idsLt] using hn) h) hcap hs hn'
  | refD h => exact .refD (hk.dead _ (by simpa [idsLt] using hn) h)
  | junk => exact .junk
  | mref h => exact .mref (hk.mp _ _ (by simpa [idsLt] using hn) h)
  | func hl hm _ _ ih ik =>
    simp only [idsLt, Bool.and_eq_true] at hn
    exact .func hl hm (fun i c v h1 h2 => ih i c v h1 h2 (idsLtL_get hn.1 h1)) (fun i c v h1 h2 => ik i c v h1 h2 (idsLtL_get hn.2 h1))
  | iface _ ih => exact .iface (ih (by simpa [idsLt] using hn))
  | agg hl _ ih => exact .agg hl fun i c v h1 h2 => ih i c v h1 h2 (idsLtL_get (by simpa [idsLt] using hn) h1)
  | tuple hl _ ih => exact .tuple hl fun i c v h1 h2 => ih i c v h1 h2 (idsLtL_get (by simpa [idsLt] using hn) h1)

theorem VL.keep {n : Nat} {g' g'' : Ghost} {w : World} (hk : KeepsT n g' g'') {xs : List AV} {vs : List Value} (h : VL g' w xs vs) (hn : idsLtL n xs = true) : VL g'' w xs vs :=
  ⟨h.len, fun i c v h1 h2 => (h.at_ i c v h1 h2).keep hk (idsLtL_get hn h1)⟩

/-! ### A call that leaves all old blocks as they are -/

def Ghost.withI (g : Ghost) (I : Nat → Nat → Prop) : Ghost := { g with I := I }

theorem ret_read {E : Env} {L : Lim} {g : Ghost} {w w' : World} {s : Sto} {I : Nat → Nat → Prop} (hI : Inv E g w s) (os : w'.os = w.os) (tape : w'.tape = w.tape) (output : w'.output = w.output) (size : w.heap.size ≤ w'.heap.size)
    (mono : ∀ b o, g.I b o → I b o) (keep : ∀ b, b < w.heap.size → w'.heap[b]? = w.heap[b]? ∧ ∀ o, I b o → g.I b o) (Ilt : ∀ b o, I b o → b < w'.heap.size)
    (glob : ∀ gl row, E.G gl = some row → ∀ j c, row[j]? = some c → ∃ v, I gl j ∧ w'.cell? ⟨gl, j, none⟩ = some v ∧ VP I w' c v) :
    Ext L g w (g.withI I) w' ∧ Inv E (g.withI I) w' s := by
  have ext : Ext L g w (g.withI I) w' := {
    os := os, tape := tape, output := output, size := size, mono := mono
    cell := fun b o hi => cell?_congr (keep b (hI.Ilt b o hi)).1 o
    blk := fun _ _ hb => .inl hb
    dead := fun _ hd => hd
    shape := fun _ b hb _ => shape_congr (keep b (hI.blkLt hb)).1
    tok := fun _ l hl => ⟨l, hl, .inl rfl⟩
    keepB := fun _ b hb _ => ⟨hb, (keep b (hI.blkLt hb)).1⟩
    keepT := fun _ l hl _ => ⟨hl, (keep l.b (hI.tokLt hl)).1, (keep l.b (hI.tokLt hl)).2⟩
    out := fun b hb _ _ _ => keep b hb
    mp := fun _ _ hb => hb
    keepM := fun _ b hb => ⟨fun _ => (keep b (hI.mpLt hb)).1, (keep b (hI.mpLt hb)).2⟩
    newM := fun id _ hb _ => ⟨id, hb⟩
    newB := fun id _ hb _ => ⟨id, hb⟩
    newT := fun _ l hl _ => ⟨l, hl, rfl⟩
    pend := fun _ hp => hp }
  refine ⟨ext, ?_⟩
  exact {
    blkN := hI.blkN, deadN := hI.deadN, deadE := hI.deadE, pendN := hI.pendN, allB := hI.allB, tokN := hI.tokN, tokL := hI.tokL, injB := hI.injB, injT := hI.injT, injBT := hI.injBT, Ilt := Ilt, glob := glob, mpX := hI.mpX, injM := hI.injM
    mp := hI.mpKeep (fun _ _ _ => rfl) (fun _ b hb => (keep b (hI.mpLt hb)).1)
    blk := fun id b hb => by
      obtain ⟨cs, vs, e, h1, h2, h3, h4⟩ := hI.blk id b hb
      exact ⟨cs, vs, e, h1, (keep b (hI.blkLt hb)).1.trans h2, h3, h4.mono ext⟩
    blkI := fun id b o hb hi => hI.blkI id b o hb ((keep b (hI.blkLt hb)).2 o hi)
    tok := fun t l hl => by
      obtain ⟨vs, e, h1, h2⟩ := hI.tok t l hl
      exact ⟨vs, e, (keep l.b (hI.tokLt hl)).1.trans h1, h2⟩
    tokI := fun t l o hl hle hi => hI.tokI t l o hl hle ((keep l.b (hI.tokLt hl)).2 o hi) }

/-- What is never written again once the blocks from n on are forgotten. -/
def Ghost.Ifrom (g : Ghost) (n : Nat) (b o : Nat) : Prop := g.I b o ∨ ∃ id, n ≤ id ∧ g.blk id = some b

theorem globFrom {E : Env} {g' : Ghost} {w' : World} {s' : Sto} {I : Nat → Nat → Prop} (hI : Inv E g' w' s') (hm : ∀ b o, g'.I b o → I b o) :
    ∀ gl row, E.G gl = some row → ∀ j c, row[j]? = some c → ∃ v, I gl j ∧ w'.cell? ⟨gl, j, none⟩ = some v ∧ VP I w' c v := fun gl row hr j c hj => by
  obtain ⟨v, h1, h2, h3⟩ := hI.glob gl row hr j c hj
  exact ⟨v, hm _ _ h1, h2, h3.mono hm fun _ _ _ => rfl⟩

/-- An old id is in the callee's ghost what it was. -/
theorem old_blk {E : Env} {L : Lim} {g g' : Ghost} {w w' : World} {s s' : Sto} (hI : Inv E g w s) (hx : Ext L g w g' w') (hI' : Inv E g' w' s') {id b : Nat} (hid : id < s.bs.length) (hb : g'.blk id = some b) : ∃ b0, g.blk id = some b0 ∧ b0 = b := by
  rcases hI.allB id hid with ⟨b0, h0⟩ | hd | hp | ⟨b0, hm⟩
  · rcases hx.blk id b0 h0 with k | k
    · rw [hb] at k; simp at k; exact ⟨b0, h0, k.symm⟩
    · rw [g'.hd id k] at hb; simp at hb
  · rw [g'.hd id (hx.dead id hd)] at hb; simp at hb
  · rw [(hI'.pendN id (hx.pend id hp)).2.1] at hb; simp at hb
  · rw [(hI'.mpX id b0 (hx.mp id b0 hm)).1] at hb; simp at hb

theorem len_le {E : Env} {L : Lim} {g g' : Ghost} {w w' : World} {s s' : Sto} (hI : Inv E g w s) (hx : Ext L g w g' w') (hI' : Inv E g' w' s') {id : Nat} (hid : id < s.bs.length) : id < s'.bs.length := by
  rcases hI.allB id hid with ⟨b0, h0⟩ | hd | hp | ⟨b0, hm⟩
  · rcases hx.blk id b0 h0 with k | k
    · exact hI'.blkN id b0 k
    · exact hI'.deadN id k
  · exact hI'.deadN id (hx.dead id hd)
  · exact (hI'.pendN id (hx.pend id hp)).1
  · exact hI'.mpN (hx.mp id b0 hm)

theorem old_mp {E : Env} {L : Lim} {g g' : Ghost} {w w' : World} {s s' : Sto} (hI : Inv E g w s) (hx : Ext L g w g' w') (hI' : Inv E g' w' s') {id b : Nat} (hid : id < s.bs.length) (hb : g'.mp id = some b) : g.mp id = some b := by
  obtain ⟨x1, x2, x3⟩ := hI'.mpX id b hb
  rcases hI.allB id hid with ⟨b0, h0⟩ | hd | hp | ⟨b0, hm⟩
  · rcases hx.blk id b0 h0 with k | k
    · rw [x1] at k; simp at k
    · exact absurd k x2
  · exact absurd (hx.dead id hd) x2
  · exact absurd (hx.pend id hp) x3
  · rw [hx.mp id b0 hm] at hb
    rw [hm]; exact hb

/-- A call that only reads the old: 'rd'. -/
theorem ret_rd {E : Env} {L L' : Lim} {g g' : Ghost} {w w' : World} {s s' : Sto} (hI : Inv E g w s) (hro : L'.ro = s.bs.length) (hrt : L'.rt = s.ts.length) (hx : Ext L' g w g' w') (hI' : Inv E g' w' s') :
    Ext L g w (g.withI (g'.Ifrom s.bs.length)) w' ∧ Inv E (g.withI (g'.Ifrom s.bs.length)) w' s ∧ Keeps s.bs.length s.ts.length g' (g.withI (g'.Ifrom s.bs.length)) ∧ RefOk s'.bs s.bs.length g' (g.withI (g'.Ifrom s.bs.length)) w' := by
  have hkb : ∀ id b, g.blk id = some b → g'.blk id = some b ∧ w'.heap[b]? = w.heap[b]? := fun id b hb => hx.keepB id b hb (by rw [hro]; exact hI.blkN id b hb)
  have hkt : ∀ t l, g.tok t = some l → g'.tok t = some l ∧ w'.heap[l.b]? = w.heap[l.b]? ∧ ∀ o, g'.I l.b o → g.I l.b o := fun t l hl => hx.keepT t l hl (by
    have := hI.tokL t l hl
    rw [hrt]
    rcases Nat.lt_or_ge t s.ts.length with k | k
    · exact k
    · rw [List.getElem?_eq_none k] at this; simp at this)
  have hmono : ∀ b o, g'.I b o → g'.Ifrom s.bs.length b o := fun _ _ h => .inl h
  have keep : ∀ b, b < w.heap.size → w'.heap[b]? = w.heap[b]? ∧ ∀ o, g'.Ifrom s.bs.length b o → g.I b o := fun b hb => by
    by_cases h1 : ∃ id, g.blk id = some b
    · obtain ⟨id, h1⟩ := h1
      obtain ⟨a1, a2⟩ := hkb id b h1
      refine ⟨a2, fun o ho => ?_⟩
      rcases ho with ho | ⟨id', h2, h3⟩
      · exact absurd ho (hI'.blkI id b o a1)
      · have := hI'.injB id id' b a1 h3
        have := hI.blkN id b h1
        omega
    · have h1' : ∀ id, g.blk id ≠ some b := fun id e => h1 ⟨id, e⟩
      have hno : ∀ id', g'.blk id' ≠ some b := fun id' h3 => by
        obtain ⟨id0, h4⟩ := hx.newB id' b h3 hb
        exact h1' id0 h4
      by_cases hm : ∃ id, g.mp id = some b
      · obtain ⟨id, hm⟩ := hm
        obtain ⟨a1, a2⟩ := hx.keepM id b hm
        refine ⟨a1 (by rw [hro]; exact hI.mpN hm), fun o ho => ?_⟩
        rcases ho with ho | ⟨id', _, h3⟩
        · exact a2 o ho
        · exact absurd h3 (hno id')
      have hm' : ∀ id, g.mp id ≠ some b := fun id e => hm ⟨id, e⟩
      by_cases h2 : ∃ t l, g.tok t = some l ∧ l.b = b
      · obtain ⟨t, l, h2, rfl⟩ := h2
        obtain ⟨_, a2, a3⟩ := hkt t l h2
        refine ⟨a2, fun o ho => ?_⟩
        rcases ho with ho | ⟨id', _, h3⟩
        · exact a3 o ho
        · exact absurd h3 (hno id')
      · obtain ⟨a1, a2⟩ := hx.out b hb h1' (fun t l hl e => h2 ⟨t, l, hl, e⟩) hm'
        refine ⟨a1, fun o ho => ?_⟩
        rcases ho with ho | ⟨id', _, h3⟩
        · exact a2 o ho
        · exact absurd h3 (hno id')
  have hIlt : ∀ b o, g'.Ifrom s.bs.length b o → b < w'.heap.size := fun b o ho => by
    rcases ho with ho | ⟨id', _, h3⟩
    · exact hI'.Ilt b o ho
    · exact hI'.blkLt h3
  obtain ⟨r1, r2⟩ := ret_read (L := L) hI hx.os hx.tape hx.output hx.size (fun b o h => hmono b o (hx.mono b o h)) keep hIlt (globFrom hI' hmono)
  refine ⟨r1, r2, ⟨fun id b hid hb => ?_, fun id hid hd => ?_, fun t l ht hl => ?_, fun id b hid hb => old_mp hI hx hI' hid hb, hmono⟩, refRows_sound hI' hmono fun id b o hid hb => .inr ⟨id, hid, hb⟩⟩
  · obtain ⟨b0, h0, rfl⟩ := old_blk hI hx hI' hid hb
    exact h0
  · rcases hI.allB id hid with ⟨b0, h0⟩ | hd' | hp | ⟨b0, hm⟩
    · have := (hkb id b0 h0).1
      rw [g'.hd id hd] at this; simp at this
    · exact hd'
    · exact absurd hd (hI'.pendN id (hx.pend id hp)).2.2
    · exact absurd hd (hI'.mpX id b0 (hx.mp id b0 hm)).2.1
  · have hs : s.ts[t]? = some (s.ts[t].1, s.ts[t].2) := by simp [ht]
    obtain ⟨l0, h0, _⟩ := hI.tokN t _ _ hs
    have := (hkt t l0 h0).1
    rw [hl] at this; simp at this; subst this
    exact h0

/-! ### A call whose arguments hold no id -/

def Ghost.bare (I : Nat → Nat → Prop) : Ghost := ⟨fun _ => none, fun _ => False, fun _ => False, fun _ => none, fun _ => none, I, fun _ h => h.elim⟩

theorem Inv.bare {E : Env} {g : Ghost} {w : World} {s : Sto} (h : Inv E g w s) : Inv E (Ghost.bare g.I) w ⟨[], []⟩ where
  blkN := fun _ _ h => by simp [Ghost.bare] at h
  deadN := fun _ h => by simp [Ghost.bare] at h
  blk := fun _ _ h => by simp [Ghost.bare] at h
  blkI := fun _ _ _ h => by simp [Ghost.bare] at h
  deadE := fun _ h => by simp [Ghost.bare] at h
  pendN := fun _ h => by simp [Ghost.bare] at h
  allB := fun _ h => by simp at h
  mp := fun _ _ h => by simp [Ghost.bare] at h
  mpX := fun _ _ h => by simp [Ghost.bare] at h
  injM := fun _ _ _ h => by simp [Ghost.bare] at h
  tokN := fun _ _ _ h => by simp at h
  tokL := fun _ _ h => by simp [Ghost.bare] at h
  tok := fun _ _ h => by simp [Ghost.bare] at h
  tokI := fun _ _ _ h => by simp [Ghost.bare] at h
  injB := fun _ _ _ h => by simp [Ghost.bare] at h
  injT := fun _ _ _ _ h => by simp [Ghost.bare] at h
  injBT := fun _ _ _ _ h => by simp [Ghost.bare] at h
  Ilt := h.Ilt
  glob := h.glob

theorem Keeps.bare {g : Ghost} : Keeps 0 0 g (Ghost.bare g.I) := ⟨fun _ _ h => absurd h (Nat.not_lt_zero _), fun _ h => absurd h (Nat.not_lt_zero _), fun _ _ h => absurd h (Nat.not_lt_zero _), fun _ _ h => absurd h (Nat.not_lt_zero _), fun _ _ h => h⟩

theorem ret_pure {E : Env} {L L' : Lim} {g g' : Ghost} {w w' : World} {s s' : Sto} (hI : Inv E g w s) (hx : Ext L' (Ghost.bare g.I) w g' w') (hI' : Inv E g' w' s') :
    Ext L g w (g.withI (g'.Ifrom 0)) w' ∧ Inv E (g.withI (g'.Ifrom 0)) w' s ∧ Keeps 0 0 g' (g.withI (g'.Ifrom 0)) ∧ RefOk s'.bs 0 g' (g.withI (g'.Ifrom 0)) w' := by
  have hmono : ∀ b o, g'.I b o → g'.Ifrom 0 b o := fun _ _ h => .inl h
  have keep : ∀ b, b < w.heap.size → w'.heap[b]? = w.heap[b]? ∧ ∀ o, g'.Ifrom 0 b o → g.I b o := fun b hb => by
    obtain ⟨a1, a2⟩ := hx.out b hb (fun _ e => by simp [Ghost.bare] at e) (fun _ _ e => by simp [Ghost.bare] at e) (fun _ e => by simp [Ghost.bare] at e)
    refine ⟨a1, fun o ho => ?_⟩
    rcases ho with ho | ⟨id', _, h3⟩
    · exact a2 o ho
    · obtain ⟨id0, h4⟩ := hx.newB id' b h3 hb
      simp [Ghost.bare] at h4
  have hIlt : ∀ b o, g'.Ifrom 0 b o → b < w'.heap.size := fun b o ho => by
    rcases ho with ho | ⟨id', _, h3⟩
    · exact hI'.Ilt b o ho
    · exact hI'.blkLt h3
  obtain ⟨r1, r2⟩ := ret_read (L := L) hI hx.os hx.tape hx.output hx.size (fun b o h => hmono b o (hx.mono b o h)) keep hIlt (globFrom hI' hmono)
  exact ⟨r1, r2, ⟨fun _ _ h => absurd h (Nat.not_lt_zero _), fun _ h => absurd h (Nat.not_lt_zero _), fun _ _ h => absurd h (Nat.not_lt_zero _), fun _ _ h => absurd h (Nat.not_lt_zero _), hmono⟩, refRows_sound hI' hmono fun id b o hid hb => .inr ⟨id, hid, hb⟩⟩

end Go.Tel
