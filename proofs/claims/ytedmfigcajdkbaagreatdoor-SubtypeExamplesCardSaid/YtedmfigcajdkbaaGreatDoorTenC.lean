/-
  Returns, part 3: a call that may write; its new blocks are forgotten, save perhaps one.
-/
import Derived.Test.YtedmfigcajdkbaaGreatDoorTenB
namespace Go.Tel

/-- The blocks below n are kept, and block r as block n. -/
def Ghost.cut (g : Ghost) (n : Nat) (r : Option Nat) : Ghost where
  blk id := if id < n then g.blk id else if id = n then r.bind g.blk else none
  dead id := id < n ∧ g.dead id
  pend id := id < n ∧ g.pend id
  tok := g.tok
  mp id := if id < n then g.mp id else none
  I b o := g.I b o ∨ ∃ id, n ≤ id ∧ r ≠ some id ∧ g.blk id = some b
  hd id h := by simp [h.1, g.hd id h.2]

theorem cut_blk {g : Ghost} {n : Nat} {r : Option Nat} {id b : Nat} (h : (g.cut n r).blk id = some b) : (id < n ∧ g.blk id = some b) ∨ (id = n ∧ ∃ id0, r = some id0 ∧ g.blk id0 = some b) := by
  simp only [Ghost.cut] at h
  split at h
  · rename_i hid; exact .inl ⟨hid, h⟩
  · split at h
    · rename_i hid
      cases r with
      | none => simp at h
      | some id0 => exact .inr ⟨hid, id0, rfl, by simpa using h⟩
    · simp at h

theorem cut_old {g : Ghost} {n : Nat} {r : Option Nat} {id b : Nat} (hid : id < n) (h : g.blk id = some b) : (g.cut n r).blk id = some b := by simp [Ghost.cut, hid, h]

theorem cut_mp {g : Ghost} {n : Nat} {r : Option Nat} {id b : Nat} (h : (g.cut n r).mp id = some b) : id < n ∧ g.mp id = some b := by
  simp only [Ghost.cut] at h
  split at h
  · rename_i hid; exact ⟨hid, h⟩
  · simp at h

theorem cut_oldM {g : Ghost} {n : Nat} {r : Option Nat} {id b : Nat} (hid : id < n) (h : g.mp id = some b) : (g.cut n r).mp id = some b := by simp [Ghost.cut, hid, h]

theorem KeepsT.cut {g : Ghost} {n : Nat} {r : Option Nat} : KeepsT n g (g.cut n r) :=
  ⟨fun _ _ hid hb => cut_old hid hb, fun _ hid hd => ⟨hid, hd⟩, fun _ _ h => h, fun _ _ hid hb => cut_oldM hid hb, fun _ _ h => .inl h⟩

/-- The store that goes with it. -/
def cutS (s : Sto) (n : Nat) (r : Option Nat) : Sto := ⟨s.bs.take n ++ (match r with | none => [] | some id => (s.bs[id]?).toList), s.ts⟩

theorem ret_im {E : Env} {L L' : Lim} {g g' : Ghost} {w w' : World} {s s' : Sto} {r : Option Nat} (hI : Inv E g w s) (hro : L'.ro = L.ro) (hrt : L'.rt = L.rt) (hx : Ext L' g w g' w') (hI' : Inv E g' w' s')
    (hids : (s'.bs.take s.bs.length).all (idsLtL s.bs.length) = true)
    (hr : ∀ id, r = some id → s.bs.length ≤ id ∧ (∃ b, g'.blk id = some b) ∧ ∀ cs, s'.bs[id]? = some cs → idsLtL s.bs.length cs = true) :
    Ext L g w (g'.cut s.bs.length r) w' ∧ Inv E (g'.cut s.bs.length r) w' (cutS s' s.bs.length r) := by
  have hle : s.bs.length ≤ s'.bs.length := by
    rcases Nat.lt_or_ge 0 s.bs.length with k | k
    · have := len_le hI hx hI' (id := s.bs.length - 1) (by omega); omega
    · omega
  have htl : (s'.bs.take s.bs.length).length = s.bs.length := by simp; omega
  have hbN : ∀ id b, g.blk id = some b → id < s.bs.length := hI.blkN
  have hno : ∀ b o, (∀ id, g'.blk id = some b → id < s.bs.length) → (g'.cut s.bs.length r).I b o → g'.I b o := fun b o h hi => by
    rcases hi with hi | ⟨id, h1, _, h3⟩
    · exact hi
    · have := h id h3; omega
  have get : ∀ id, id < s.bs.length → (cutS s' s.bs.length r).bs[id]? = s'.bs[id]? := fun id hid => by
    simp only [cutS]
    rw [List.getElem?_append_left (by rw [htl]; exact hid), List.getElem?_take_of_lt hid]
  have ids : ∀ id cs, id < s.bs.length → s'.bs[id]? = some cs → idsLtL s.bs.length cs = true := fun id cs hid hcs => by
    rw [List.all_eq_true] at hids
    refine hids cs (List.mem_of_getElem? (i := id) ?_)
    rw [List.getElem?_take_of_lt hid]; exact hcs
  have ext : Ext L g w (g'.cut s.bs.length r) w' := {
    os := hx.os, tape := hx.tape, output := hx.output, size := hx.size
    mono := fun b o hi => .inl (hx.mono b o hi)
    cell := hx.cell
    blk := fun id b hb => by
      rcases hx.blk id b hb with k | k
      · exact .inl (cut_old (hbN id b hb) k)
      · exact .inr ⟨hbN id b hb, k⟩
    dead := fun id hd => ⟨hI.deadN id hd, hx.dead id hd⟩
    shape := fun id b hb hb' => by
      rcases cut_blk hb' with ⟨_, k⟩ | ⟨k, _⟩
      · exact hx.shape id b hb k
      · have := hbN id b hb; omega
    tok := hx.tok
    keepB := fun id b hb hlt => by
      obtain ⟨a1, a2⟩ := hx.keepB id b hb (by rw [hro]; exact hlt)
      exact ⟨cut_old (hbN id b hb) a1, a2⟩
    keepT := fun t l hl hlt => by
      obtain ⟨a1, a2, a3⟩ := hx.keepT t l hl (by rw [hrt]; exact hlt)
      refine ⟨a1, a2, fun o ho => a3 o ?_⟩
      rcases ho with ho | ⟨id, _, _, h3⟩
      · exact ho
      · exact absurd rfl (hI'.injBT id l.b t l h3 a1)
    mp := fun id b hb => cut_oldM (hI.mpN hb) (hx.mp id b hb)
    keepM := fun id b hb => by
      obtain ⟨a1, a2⟩ := hx.keepM id b hb
      refine ⟨fun hlt => a1 (by rw [hro]; exact hlt), fun o ho => a2 o ?_⟩
      rcases ho with ho | ⟨id', _, _, h3⟩
      · exact ho
      · exact absurd h3 (hI'.mpB (hx.mp id b hb))
    newM := fun id b hb hlt => hx.newM id b (cut_mp hb).2 hlt
    out := fun b hb h1 h2 h3 => by
      obtain ⟨a1, a2⟩ := hx.out b hb h1 h2 h3
      refine ⟨a1, fun o ho => a2 o ?_⟩
      rcases ho with ho | ⟨id, _, _, h3⟩
      · exact ho
      · obtain ⟨id0, h4⟩ := hx.newB id b h3 hb
        exact absurd h4 (h1 id0)
    newB := fun id b hb hlt => by
      rcases cut_blk hb with ⟨_, k⟩ | ⟨_, id0, _, k⟩
      · exact hx.newB id b k hlt
      · exact hx.newB id0 b k hlt
    newT := hx.newT
    pend := fun id hp => ⟨(hI.pendN id hp).1, hx.pend id hp⟩ }
  have hlast : ∀ id0, r = some id0 → ∃ cs, s'.bs[id0]? = some cs ∧ (cutS s' s.bs.length r).bs[s.bs.length]? = some cs ∧ (cutS s' s.bs.length r).bs.length = s.bs.length + 1 := fun id0 e => by
    obtain ⟨_, ⟨b, hb⟩, _⟩ := hr id0 e
    have hlt := hI'.blkN id0 b hb
    refine ⟨s'.bs[id0], by simp [hlt], ?_, ?_⟩
    · simp only [cutS, e]
      rw [List.getElem?_append_right (by rw [htl]; exact Nat.le_refl _), htl]
      simp [hlt]
    · simp only [cutS, e]
      rw [List.length_append, htl]
      simp [hlt]
  have hlen : s.bs.length ≤ (cutS s' s.bs.length r).bs.length := by
    simp only [cutS]
    rw [List.length_append, htl]
    omega
  refine ⟨ext, ?_⟩
  exact {
    blkN := fun id b hb => by
      rcases cut_blk hb with ⟨k, _⟩ | ⟨rfl, id0, e, _⟩
      · omega
      · obtain ⟨_, _, _, h3⟩ := hlast id0 e; omega
    deadN := fun id hd => by have := hd.1; omega
    blk := fun id b hb => by
      rcases cut_blk hb with ⟨k, hb⟩ | ⟨rfl, id0, e, hb⟩
      · obtain ⟨cs, vs, e, h1, h2, h3, h4⟩ := hI'.blk id b hb
        exact ⟨cs, vs, e, (get id k).trans h1, h2, h3, h4.keep KeepsT.cut (ids id cs k h1)⟩
      · obtain ⟨cs, vs, e', h1, h2, h3, h4⟩ := hI'.blk id0 b hb
        obtain ⟨cs', k1, k2, _⟩ := hlast id0 e
        rw [h1] at k1; simp at k1; subst k1
        exact ⟨cs, vs, e', k2, h2, h3, h4.keep KeepsT.cut ((hr id0 e).2.2 cs h1)⟩
    blkI := fun id b o hb hi => by
      rcases cut_blk hb with ⟨k, hb⟩ | ⟨rfl, id0, e, hb⟩
      · rcases hi with hi | ⟨id', h1, _, h3⟩
        · exact hI'.blkI id b o hb hi
        · have := hI'.injB id id' b hb h3; omega
      · rcases hi with hi | ⟨id', h1, h2, h3⟩
        · exact hI'.blkI id0 b o hb hi
        · have := hI'.injB id0 id' b hb h3
          exact h2 (by rw [e, this])
    deadE := fun id hd => (get id hd.1).trans (hI'.deadE id hd.2)
    pendN := fun id hp => by
      obtain ⟨a, b, c⟩ := hI'.pendN id hp.2
      exact ⟨by have := hp.1; omega, by simp [Ghost.cut, hp.1, b], fun hd => c hd.2⟩
    allB := fun id hid => by
      by_cases k : id < s.bs.length
      · rcases hI'.allB id (by omega) with ⟨b, hb⟩ | hd | hp | ⟨b, hm⟩
        · exact .inl ⟨b, cut_old k hb⟩
        · exact .inr (.inl ⟨k, hd⟩)
        · exact .inr (.inr (.inl ⟨k, hp⟩))
        · exact .inr (.inr (.inr ⟨b, cut_oldM k hm⟩))
      · cases e : r with
        | none =>
          simp only [cutS, e] at hid
          rw [List.length_append, htl] at hid
          simp at hid; omega
        | some id0 =>
          obtain ⟨_, _, _, h3⟩ := hlast id0 e
          rw [h3] at hid
          have : id = s.bs.length := by omega
          subst this
          obtain ⟨_, ⟨b, hb⟩, _⟩ := hr id0 e
          exact .inl ⟨b, by simp [Ghost.cut, hb]⟩
    mp := fun id b hb => by
      obtain ⟨k, hm⟩ := cut_mp hb
      obtain ⟨es, c, h1, h2⟩ := hI'.mp id b hm
      exact ⟨es, c, (get id k).trans h1, h2⟩
    mpX := fun id b hb => by
      obtain ⟨k, hm⟩ := cut_mp hb
      obtain ⟨a1, a2, a3⟩ := hI'.mpX id b hm
      exact ⟨by simp [Ghost.cut, k, a1], fun hd => a2 hd.2, fun hp => a3 hp.2⟩
    injM := fun id id' b hb hb' => hI'.injM id id' b (cut_mp hb).2 (cut_mp hb').2
    tokN := hI'.tokN
    tokL := hI'.tokL
    tok := hI'.tok
    tokI := fun t l o hl hle hi => by
      rcases hi with hi | ⟨id', _, _, h3⟩
      · exact hI'.tokI t l o hl hle hi
      · exact absurd rfl (hI'.injBT id' l.b t l h3 hl)
    injB := fun id id' b hb hb' => by
      rcases cut_blk hb with ⟨k, hb⟩ | ⟨rfl, id0, e, hb⟩
      · rcases cut_blk hb' with ⟨k', hb'⟩ | ⟨rfl, id0, e, hb'⟩
        · exact hI'.injB id id' b hb hb'
        · have := hI'.injB id id0 b hb hb'
          have := (hr id0 e).1
          omega
      · rcases cut_blk hb' with ⟨k', hb'⟩ | ⟨rfl, _⟩
        · have := hI'.injB id' id0 b hb' hb
          have := (hr id0 e).1
          omega
        · rfl
    injT := hI'.injT
    injBT := fun id b t l hb hl => by
      rcases cut_blk hb with ⟨_, hb⟩ | ⟨_, id0, _, hb⟩
      · exact hI'.injBT id b t l hb hl
      · exact hI'.injBT id0 b t l hb hl
    Ilt := fun b o hi => by
      rcases hi with hi | ⟨id, _, _, h3⟩
      · exact hI'.Ilt b o hi
      · exact hI'.blkLt h3
    glob := globFrom hI' fun _ _ h => .inl h }

theorem keepA_sound {E : Env} {L L' : Lim} {g g' : Ghost} {w w' : World} {s s' s'' : Sto} {r : Bool} {v x : AV} {u : Value} (hI : Inv E g w s) (hro : L'.ro = L.ro) (hrt : L'.rt = L.rt) (hx : Ext L' g w g' w') (hI' : Inv E g' w' s')
    (hv : V g' w' x u) (h : keepA r s.bs.length x s' = some (v, s'')) : ∃ g'', V g'' w' v u ∧ Ext L g w g'' w' ∧ Inv E g'' w' s'' := by
  unfold keepA at h
  cases hids : (s'.bs.take s.bs.length).all (idsLtL s.bs.length) with
  | false => rw [hids] at h; simp at h
  | true =>
    rw [hids] at h
    simp only [cond_true] at h
    split at h
    · rename_i id off len sz hnr
      unfold newRef at hnr
      split at hnr
      · rename_i id' off' len' sz'
        cases hc : (r && Nat.ble s.bs.length id') with
        | false => rw [hc] at hnr; simp at hnr
        | true =>
          rw [hc] at hnr
          simp at hnr
          obtain ⟨rfl, rfl, rfl, rfl⟩ := hnr
          simp at hc
          split at h
          · rename_i c cs hcs
            cases hl : idsLtL s.bs.length (c :: cs) with
            | false => rw [hl] at h; simp at h
            | true =>
              rw [hl] at h
              simp only [cond_true, Option.some.injEq, Prod.mk.injEq] at h
              obtain ⟨rfl, rfl⟩ := h
              cases hv with
              | refD hd => have := hI'.deadE _ hd; rw [hcs] at this; simp at this
              | @ref _ _ _ _ b cap n e hblk hcap hs hn =>
                obtain ⟨r1, r2⟩ := ret_im (L := L) (r := some id') hI hro hrt hx hI' hids (fun id e => by
                  simp at e; subst e
                  exact ⟨hc.2, ⟨b, hblk⟩, fun cs' h' => by rw [hcs] at h'; simp at h'; subst h'; exact hl⟩)
                refine ⟨_, ?_, r1, ?_⟩
                · exact .ref (by simp [Ghost.cut, hblk]) hcap hs hn
                · simpa [cutS, hcs] using r2
          · simp at h
      · simp at hnr
    · split at h
      · rename_i y hy
        simp only [Option.some.injEq, Prod.mk.injEq] at h
        obtain ⟨rfl, rfl⟩ := h
        obtain ⟨r1, r2⟩ := ret_im (L := L) (r := none) hI hro hrt hx hI' hids (fun id e => by simp at e)
        refine ⟨_, ?_, r1, ?_⟩
        · have hk : Keeps s.bs.length s'.ts.length g' (g'.cut s.bs.length none) := ⟨fun _ _ a b => cut_old a b, fun _ a b => ⟨a, b⟩, fun _ _ _ h => h, fun _ _ a b => cut_oldM a b, fun _ _ h => .inl h⟩
          have ho : RefOk s'.bs s.bs.length g' (g'.cut s.bs.length none) w' := refRows_sound hI' hk.mono fun id b o h1 h2 => Or.inr ⟨id, h1, by simp, h2⟩
          exact close_sound ho hk _ _ _ hy hv
        · simpa [cutS] using r2
      · simp at h

end Go.Tel
