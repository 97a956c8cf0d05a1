/-
  A told call: a reading call of which only the first blocks of the store count.
-/
import Derived.Test.YtpmafnbhkhdaiaaGreatDoorTenK
set_option linter.unusedSimpArgs false
set_option linter.unusedVariables false
namespace Go.Tel
def Ghost.rcut (g : Ghost) (n : Nat) : Ghost where
  blk id := if id < n then g.blk id else none
  dead id := id < n ∧ g.dead id
  pend id := id < n ∧ g.pend id
  tok := g.tok
  mp id := if id < n then g.mp id else none
  I := g.I
  hd id h := by simp [h.1, g.hd id h.2]
theorem rcut_blk {g : Ghost} {n id b : Nat} (h : (g.rcut n).blk id = some b) : id < n ∧ g.blk id = some b := by
  simp only [Ghost.rcut] at h
  split at h
  · rename_i hid; exact ⟨hid, h⟩
  · simp at h
theorem rcut_mp {g : Ghost} {n id b : Nat} (h : (g.rcut n).mp id = some b) : id < n ∧ g.mp id = some b := by
  simp only [Ghost.rcut] at h
  split at h
  · rename_i hid; exact ⟨hid, h⟩
  · simp at h
theorem KeepsT.rcut {g : Ghost} {n : Nat} : KeepsT n g (g.rcut n) :=
  ⟨fun _ _ hid hb => by simp [Ghost.rcut, hid, hb], fun _ hid hd => ⟨hid, hd⟩, fun _ _ h => h, fun _ _ hid hb => by simp [Ghost.rcut, hid, hb], fun _ _ h => h⟩
theorem Inv.rcut {E : Env} {g : Ghost} {w : World} {s : Sto} (h : Inv E g w s) {n : Nat} (hids : ((s.bs.take n).all (idsLtL n)) = true) : Inv E (g.rcut n) w ⟨s.bs.take n, s.ts⟩ where
  blkN := fun id b hb => by
    obtain ⟨h1, h2⟩ := rcut_blk hb
    have := h.blkN id b h2
    simp
    omega
  deadN := fun id hd => by
    have := h.deadN id hd.2
    have := hd.1
    simp
    omega
  blk := fun id b hb => by
    obtain ⟨h1, h2⟩ := rcut_blk hb
    obtain ⟨cs, vs, e, k1, k2, k3, k4⟩ := h.blk id b h2
    have hg : (s.bs.take n)[id]? = some cs := by rw [List.getElem?_take_of_lt h1]; exact k1
    refine ⟨cs, vs, e, hg, k2, k3, k4.keep KeepsT.rcut ?_⟩
    rw [List.all_eq_true] at hids
    exact hids cs (List.mem_of_getElem? hg)
  blkI := fun id b o hb => h.blkI id b o (rcut_blk hb).2
  deadE := fun id hd => by
    show (s.bs.take n)[id]? = some []
    rw [List.getElem?_take_of_lt hd.1]
    exact h.deadE id hd.2
  pendN := fun id hp => by
    obtain ⟨h1, h2, h3⟩ := h.pendN id hp.2
    have := hp.1
    refine ⟨by simp; omega, by simp [Ghost.rcut, h2], fun hd => h3 hd.2⟩
  allB := fun id hid => by
    have h0 : id < n ∧ id < s.bs.length := by simp at hid; omega
    rcases h.allB id h0.2 with ⟨b, k⟩ | k | k | ⟨b, k⟩
    · exact .inl ⟨b, by simp [Ghost.rcut, h0.1, k]⟩
    · exact .inr (.inl ⟨h0.1, k⟩)
    · exact .inr (.inr (.inl ⟨h0.1, k⟩))
    · exact .inr (.inr (.inr ⟨b, by simp [Ghost.rcut, h0.1, k]⟩))
  mp := fun id b hb => by
    obtain ⟨h1, h2⟩ := rcut_mp hb
    obtain ⟨es, c, k1, k2⟩ := h.mp id b h2
    exact ⟨es, c, by rw [List.getElem?_take_of_lt h1]; exact k1, k2⟩
  mpX := fun id b hb => by
    obtain ⟨h1, h2⟩ := rcut_mp hb
    obtain ⟨k1, k2, k3⟩ := h.mpX id b h2
    exact ⟨by simp [Ghost.rcut, k1], fun hd => k2 hd.2, fun hp => k3 hp.2⟩
  injM := fun id id' b h1 h2 => h.injM id id' b (rcut_mp h1).2 (rcut_mp h2).2
  tokN := h.tokN
  tokL := h.tokL
  tok := h.tok
  tokI := h.tokI
  injB := fun id id' b h1 h2 => h.injB id id' b (rcut_blk h1).2 (rcut_blk h2).2
  injT := h.injT
  injBT := fun id b t l h1 h2 => h.injBT id b t l (rcut_blk h1).2 h2
  Ilt := h.Ilt
  glob := h.glob
  globN := h.globN
theorem ret_cut {E : Env} {L L' : Lim} {g g' : Ghost} {w w' : World} {s s' : Sto} {n : Nat} (hI : Inv E g w s) (hro : L'.ro = n) (hrt : L'.rt = s.ts.length) (hx : Ext L' (g.rcut n) w g' w') (hI' : Inv E g' w' s') :
    Ext L g w (g.withI g'.I) w' ∧ Inv E (g.withI g'.I) w' s ∧ Keeps 0 0 g' (g.withI g'.I) := by
  have keep : ∀ b, b < w.heap.size → w'.heap[b]? = w.heap[b]? ∧ ∀ o, g'.I b o → g.I b o := fun b hb => by
    by_cases h1 : ∃ id, (g.rcut n).blk id = some b
    · obtain ⟨id, h1⟩ := h1
      obtain ⟨a1, a2⟩ := hx.keepB id b h1 (by rw [hro]; exact (rcut_blk h1).1)
      exact ⟨a2, fun o ho => absurd ho (hI'.blkI id b o a1)⟩
    by_cases h2 : ∃ id, (g.rcut n).mp id = some b
    · obtain ⟨id, h2⟩ := h2
      obtain ⟨a1, a2⟩ := hx.keepM id b h2
      exact ⟨a1 (by rw [hro]; exact (rcut_mp h2).1), a2⟩
    by_cases h3 : ∃ t l, g.tok t = some l ∧ l.b = b
    · obtain ⟨t, l, h3, rfl⟩ := h3
      obtain ⟨_, a2, a3⟩ := hx.keepT t l h3 (by
        have := hI.tokL t l h3
        rw [hrt]
        rcases Nat.lt_or_ge t s.ts.length with k | k
        · exact k
        · rw [List.getElem?_eq_none k] at this; simp at this)
      exact ⟨a2, a3⟩
    exact hx.out b hb (fun id e => h1 ⟨id, e⟩) (fun t l hl e => h3 ⟨t, l, hl, e⟩) (fun id e => h2 ⟨id, e⟩)
  obtain ⟨r1, r2⟩ := ret_read (L := L) (I := g'.I) hI hx.os hx.tape hx.output hx.size (fun b o h => hx.mono b o h) keep hI'.Ilt (globFrom hI' fun _ _ h => h) (globNFrom hI' fun _ _ h => h)
  exact ⟨r1, r2, ⟨fun _ _ h => absurd h (Nat.not_lt_zero _), fun _ h => absurd h (Nat.not_lt_zero _), fun _ _ h => absurd h (Nat.not_lt_zero _), fun _ _ h => absurd h (Nat.not_lt_zero _), fun _ _ h => h⟩⟩
def frT (E0 : Env) (f n : Nat) (_ : Lim) (args : List AV) (s : Sto) : Option (AV × Sto) :=
  bif (s.bs.take n).all (idsLtL n) && idsLtL n args then
    match callN E0 400 ⟨0, n, s.ts.length, fun _ => false, fun _ => false, fun _ => none⟩ f args ⟨s.bs.take n, s.ts⟩ with
    | some (v, _) => bif noId v then some (v, s) else none
    | none => none
  else none
theorem frT_ok {E E0 : Env} (hG0 : Good E0) (hG : E.G = E0.G) (hP : E.P = E0.P) {f n : Nat} : ToldOk E f (frT E0 f n) := by
  intro L args s s' v g w vs h hI hargs
  unfold frT at h
  cases hc : ((s.bs.take n).all (idsLtL n) && idsLtL n args) with
  | false => rw [hc] at h; cases h
  | true =>
    rw [hc] at h
    simp only [cond_true] at h
    simp only [Bool.and_eq_true] at hc
    split at h
    · rename_i x s1 hcall
      cases hn : noId x with
      | false => rw [hn] at h; cases h
      | true =>
        rw [hn] at h
        simp only [cond_true, Option.some.injEq, Prod.mk.injEq] at h
        obtain ⟨rfl, rfl⟩ := h
        have hI0 : Inv E0 g w s := hI.env hG hP
        have i1 := hI0.rcut hc.1
        obtain ⟨q1, q2⟩ := callN_sound hG0 400 _ f args _ _ _ _ _ vs hcall i1 (hargs.keep KeepsT.rcut hc.2)
        rw [← hP] at q1 q2
        refine ⟨q1, q2.mono ?_⟩
        rintro e w' ⟨v', g', rfl, hv, hx, hi⟩
        obtain ⟨r1, r2, r3⟩ := ret_cut (L := L) hI0 rfl rfl hx hi
        exact ⟨v', _, rfl, close_sound RefOk.nil r3 _ _ _ (noId_close 0 0 x hn) hv, r1, r2.env hG.symm hP.symm⟩
    · cases h
end Go.Tel
