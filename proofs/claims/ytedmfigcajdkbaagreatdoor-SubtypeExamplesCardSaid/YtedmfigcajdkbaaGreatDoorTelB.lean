/-
  The relation between abstract and concrete states, and what it keeps.
-/
import Derived.Test.YtedmfigcajdkbaaGreatDoorTelA
namespace Go.Tel

structure TokLoc where
  b : Nat
  cap : Nat
  sz : Nat
  n : Nat

/-- Where blocks and tokens lie; which blocks are given up; which are laid in the store but not yet in the heap; which cells are never written again. -/
structure Ghost where
  blk : Nat → Option Nat
  dead : Nat → Prop
  pend : Nat → Prop
  tok : Nat → Option TokLoc
  mp : Nat → Option Nat
  I : Nat → Nat → Prop
  hd : ∀ id, dead id → blk id = none

inductive VP (I : Nat → Nat → Prop) (w : World) : PV → Value → Prop where
  | sc (v : Value) : VP I w (.sc v) v
  | list (rows : List (List PV)) (base : Option Addr) (cap b o sz : Nat) (f : Nat → Nat → Value)
      (hcap : rows.length ≤ cap)
      (hsz : ∀ row ∈ rows, row.length = sz)
      (hbase : rows ≠ [] → sz ≠ 0 → base = some ⟨b, o, none⟩)
      (hc : ∀ i row j c, rows[i]? = some row → row[j]? = some c → I b (o + i * sz + j) ∧ w.cell? ⟨b, o + i * sz + j, none⟩ = some (f i j))
      (hv : ∀ i row j c, rows[i]? = some row → row[j]? = some c → VP I w c (f i j)) :
      VP I w (.list rows) (.slice base rows.length cap)

/-- The rows lie from offset o of block b on. -/
structure RowsAt (I : Nat → Nat → Prop) (w : World) (rows : List (List PV)) (base : Option Addr) (b o sz : Nat) (f : Nat → Nat → Value) : Prop where
  hsz : ∀ row ∈ rows, row.length = sz
  hbase : rows ≠ [] → sz ≠ 0 → base = some ⟨b, o, none⟩
  hc : ∀ i row j c, rows[i]? = some row → row[j]? = some c → I b (o + i * sz + j) ∧ w.cell? ⟨b, o + i * sz + j, none⟩ = some (f i j)
  hv : ∀ i row j c, rows[i]? = some row → row[j]? = some c → VP I w c (f i j)

theorem VP.mono {I I' : Nat → Nat → Prop} {w w' : World} (hI : ∀ b o, I b o → I' b o) (hw : ∀ b o, I b o → w'.cell? ⟨b, o, none⟩ = w.cell? ⟨b, o, none⟩)
    {p : PV} {v : Value} (h : VP I w p v) : VP I' w' p v := by
  induction h with
  | sc v => exact .sc v
  | list rows base cap b o sz f hcap hsz hbase hc _ ih =>
    refine .list rows base cap b o sz f hcap hsz hbase (fun i row j c hr hj => ?_) ih
    obtain ⟨h1, h2⟩ := hc i row j c hr hj
    exact ⟨hI _ _ h1, by rw [hw _ _ h1]; exact h2⟩

theorem RowsAt.mono {I I' : Nat → Nat → Prop} {w w' : World} (hI : ∀ b o, I b o → I' b o) (hw : ∀ b o, I b o → w'.cell? ⟨b, o, none⟩ = w.cell? ⟨b, o, none⟩)
    {rows : List (List PV)} {base : Option Addr} {b o sz : Nat} {f : Nat → Nat → Value} (h : RowsAt I w rows base b o sz f) : RowsAt I' w' rows base b o sz f := by
  refine ⟨h.hsz, h.hbase, fun i row j c hr hj => ?_, fun i row j c hr hj => (h.hv i row j c hr hj).mono hI hw⟩
  obtain ⟨h1, h2⟩ := h.hc i row j c hr hj
  exact ⟨hI _ _ h1, by rw [hw _ _ h1]; exact h2⟩

theorem RowsAt.nil {I : Nat → Nat → Prop} {w : World} {base : Option Addr} {b o sz : Nat} {f : Nat → Nat → Value} : RowsAt I w [] base b o sz f :=
  ⟨by simp, by simp, by simp, by simp⟩

theorem VP.of_rows {I : Nat → Nat → Prop} {w : World} {rows : List (List PV)} {base : Option Addr} {b o sz cap : Nat} {f : Nat → Nat → Value}
    (h : RowsAt I w rows base b o sz f) (hc : rows.length ≤ cap) : VP I w (.list rows) (.slice base rows.length cap) :=
  .list rows base cap b o sz f hc h.hsz h.hbase h.hc h.hv

theorem VP.rows {I : Nat → Nat → Prop} {w : World} {rows : List (List PV)} {v : Value} (h : VP I w (.list rows) v) :
    ∃ base cap b o sz f, v = .slice base rows.length cap ∧ rows.length ≤ cap ∧ RowsAt I w rows base b o sz f := by
  cases h with
  | list _ base cap b o sz f hcap hsz hbase hc hv => exact ⟨base, cap, b, o, sz, f, rfl, hcap, hsz, hbase, hc, hv⟩

theorem VP.scv {I : Nat → Nat → Prop} {w : World} {u v : Value} (h : VP I w (.sc u) v) : v = u := by cases h; rfl

inductive V (g : Ghost) (w : World) : AV → Value → Prop where
  | pv {p : PV} {v : Value} (h : VP g.I w p v) : V g w (.pv p) v
  | ptr {id off b : Nat} (h : g.blk id = some b) : V g w (.ptr id off) (.pointer (some ⟨b, off, none⟩))
  | ptrD {id off : Nat} {a : Option Addr} (h : g.dead id) : V g w (.ptr id off) (.pointer a)
  | gptr (gl off : Nat) : V g w (.gptr gl off) (.pointer (some ⟨gl, off, none⟩))
  | eptr {row : List PV} {b o : Nat} (off : Nat) (f : Nat → Value)
      (h : ∀ j c, row[j]? = some c → g.I b (o + j) ∧ w.cell? ⟨b, o + j, none⟩ = some (f j) ∧ VP g.I w c (f j)) :
      V g w (.eptr row off) (.pointer (some ⟨b, o + off, none⟩))
  | capped {rows : List (List PV)} {base : Option Addr} {b o sz : Nat} {f : Nat → Nat → Value} (h : RowsAt g.I w rows base b o sz f) :
      V g w (.capped rows) (.slice base rows.length rows.length)
  | own {t : Nat} {rows : List (List PV)} {base : Option Addr} {b o sz cap : Nat} {f : Nat → Nat → Value} {l : TokLoc} (h : RowsAt g.I w rows base b o sz f)
      (hcap : rows.length ≤ cap) (ht : g.tok t = some l) (hn : rows.length ≤ l.n)
      (hf : rows.length = l.n → base = some ⟨l.b, 0, none⟩ ∧ cap = l.cap ∧ sz = l.sz ∧ b = l.b ∧ o = 0) :
      V g w (.own t rows) (.slice base rows.length cap)
  | ref {id off len sz b cap n : Nat} {e : TypeId} (h : g.blk id = some b) (hcap : len ≤ cap) (hs : w.shape? b = some (e, n)) (hn : off + cap * sz ≤ n) :
      V g w (.ref id off len sz) (.slice (some ⟨b, off, none⟩) len cap)
  | refD {id off len sz n c : Nat} {a : Option Addr} (h : g.dead id) : V g w (.ref id off len sz) (.slice a n c)
  | junk {a : Option Addr} : V g w .junk (.pointer a)
  | mref {id b : Nat} (h : g.mp id = some b) : V g w (.mref id) (.map (some b))
  | func {fn : Fn} {first captured : List AV} {vs us : List Value} (hl : first.length = vs.length) (hm : captured.length = us.length)
      (h : ∀ (i : Nat) c v, first[i]? = some c → vs[i]? = some v → V g w c v) (k : ∀ (i : Nat) c v, captured[i]? = some c → us[i]? = some v → V g w c v) :
      V g w (.func fn first captured) (.func fn vs.toArray us.toArray)
  | iface {t : TypeId} {x : AV} {v : Value} (h : V g w x v) : V g w (.iface t x) (.iface t v)
  | agg {cs : List AV} {vs : List Value} (hl : cs.length = vs.length) (h : ∀ (i : Nat) c v, cs[i]? = some c → vs[i]? = some v → V g w c v) : V g w (.agg cs) (.agg vs.toArray)
  | tuple {cs : List AV} {vs : List Value} (hl : cs.length = vs.length) (h : ∀ (i : Nat) c v, cs[i]? = some c → vs[i]? = some v → V g w c v) : V g w (.tuple cs) (.tuple vs.toArray)

/-- Lists of values, one by one. -/
structure VL (g : Ghost) (w : World) (cs : List AV) (vs : List Value) : Prop where
  len : cs.length = vs.length
  at_ : ∀ (i : Nat) c v, cs[i]? = some c → vs[i]? = some v → V g w c v

theorem VL.nil {g : Ghost} {w : World} : VL g w [] [] := ⟨rfl, by simp⟩
theorem VL.cons {g : Ghost} {w : World} {c : AV} {v : Value} {cs : List AV} {vs : List Value} (h : V g w c v) (k : VL g w cs vs) : VL g w (c :: cs) (v :: vs) :=
  ⟨by simp [k.len], fun i => by
    cases i with
    | zero => simp; exact h
    | succ i => simpa using k.at_ i⟩
theorem VL.head {g : Ghost} {w : World} {c : AV} {v : Value} {cs : List AV} {vs : List Value} (h : VL g w (c :: cs) (v :: vs)) : V g w c v := h.at_ 0 c v rfl rfl
theorem VL.tail {g : Ghost} {w : World} {c : AV} {v : Value} {cs : List AV} {vs : List Value} (h : VL g w (c :: cs) (v :: vs)) : VL g w cs vs :=
  ⟨by have := h.len; simp at this; exact this, fun i c v h1 h2 => h.at_ (i + 1) c v (by simpa using h1) (by simpa using h2)⟩
theorem VL.cases {g : Ghost} {w : World} {c : AV} {cs : List AV} {vs : List Value} (h : VL g w (c :: cs) vs) : ∃ u us, vs = u :: us ∧ V g w c u ∧ VL g w cs us := by
  cases vs with
  | nil => have := h.len; simp at this
  | cons u us => exact ⟨u, us, rfl, h.head, h.tail⟩
theorem VL.nil_inv {g : Ghost} {w : World} {vs : List Value} (h : VL g w [] vs) : vs = [] := by
  have := h.len; simp at this; exact (List.length_eq_zero_iff.1 this.symm)
theorem VL.append {g : Ghost} {w : World} {cs ds : List AV} {vs us : List Value} (h : VL g w cs vs) (k : VL g w ds us) : VL g w (cs ++ ds) (vs ++ us) := by
  induction cs generalizing vs with
  | nil => rw [h.nil_inv]; simpa using k
  | cons c cs ih =>
    obtain ⟨u, us', rfl, h1, h2⟩ := h.cases
    exact .cons h1 (ih h2)
theorem VL.take {g : Ghost} {w : World} {cs : List AV} {vs : List Value} (h : VL g w cs vs) (n : Nat) : VL g w (cs.take n) (vs.take n) :=
  ⟨by simp [h.len], fun i c v h1 h2 => by
    rw [List.getElem?_take] at h1 h2
    split at h1
    · rename_i hi; rw [if_pos hi] at h2; exact h.at_ i c v h1 h2
    · simp at h1⟩
theorem VL.drop {g : Ghost} {w : World} {cs : List AV} {vs : List Value} (h : VL g w cs vs) (n : Nat) : VL g w (cs.drop n) (vs.drop n) :=
  ⟨by simp [h.len], fun i c v h1 h2 => by
    rw [List.getElem?_drop] at h1 h2
    exact h.at_ _ c v h1 h2⟩
theorem VL.get {g : Ghost} {w : World} {cs : List AV} {vs : List Value} (h : VL g w cs vs) {i : Nat} {c : AV} (hc : cs[i]? = some c) : ∃ v, vs[i]? = some v ∧ V g w c v := by
  have hi : i < vs.length := by
    rw [← h.len]
    rcases Nat.lt_or_ge i cs.length with k | k
    · exact k
    · rw [List.getElem?_eq_none k] at hc; simp at hc
  exact ⟨vs[i], by simp [hi], h.at_ i c _ hc (by simp [hi])⟩
theorem VL.set {g : Ghost} {w : World} {cs : List AV} {vs : List Value} (h : VL g w cs vs) {c : AV} {v : Value} (i : Nat) (hv : V g w c v) : VL g w (cs.set i c) (vs.set i v) := by
  refine ⟨by simp [h.len], fun j c' v' h1 h2 => ?_⟩
  rw [List.getElem?_set] at h1 h2
  split at h1
  · rename_i hij
    rw [if_pos hij] at h2
    split at h1
    · split at h2
      · simp at h1 h2; subst h1; subst h2; exact hv
      · simp at h2
    · simp at h1
  · rename_i hij
    rw [if_neg hij] at h2
    exact h.at_ j c' v' h1 h2

/-- What becomes of the old when one goes on. -/
structure Ext (L : Lim) (g : Ghost) (w : World) (g' : Ghost) (w' : World) : Prop where
  os : w'.os = w.os
  tape : w'.tape = w.tape
  output : w'.output = w.output
  size : w.heap.size ≤ w'.heap.size
  mono : ∀ b o, g.I b o → g'.I b o
  cell : ∀ b o, g.I b o → w'.cell? ⟨b, o, none⟩ = w.cell? ⟨b, o, none⟩
  blk : ∀ id b, g.blk id = some b → g'.blk id = some b ∨ g'.dead id
  dead : ∀ id, g.dead id → g'.dead id
  shape : ∀ id b, g.blk id = some b → g'.blk id = some b → w'.shape? b = w.shape? b
  tok : ∀ t l, g.tok t = some l → ∃ l', g'.tok t = some l' ∧ (l' = l ∨ l.n < l'.n)
  keepB : ∀ id b, g.blk id = some b → id < L.ro → g'.blk id = some b ∧ w'.heap[b]? = w.heap[b]?
  keepT : ∀ t l, g.tok t = some l → t < L.rt → g'.tok t = some l ∧ w'.heap[l.b]? = w.heap[l.b]? ∧ ∀ o, g'.I l.b o → g.I l.b o
  out : ∀ b, b < w.heap.size → (∀ id, g.blk id ≠ some b) → (∀ t l, g.tok t = some l → l.b ≠ b) → (∀ id, g.mp id ≠ some b) → w'.heap[b]? = w.heap[b]? ∧ ∀ o, g'.I b o → g.I b o
  mp : ∀ id b, g.mp id = some b → g'.mp id = some b
  keepM : ∀ id b, g.mp id = some b → (id < L.ro → w'.heap[b]? = w.heap[b]?) ∧ ∀ o, g'.I b o → g.I b o
  newM : ∀ id b, g'.mp id = some b → b < w.heap.size → ∃ id0, g.mp id0 = some b
  newB : ∀ id b, g'.blk id = some b → b < w.heap.size → ∃ id0, g.blk id0 = some b
  newT : ∀ t l', g'.tok t = some l' → l'.b < w.heap.size → ∃ l, g.tok t = some l ∧ l.b = l'.b
  pend : ∀ id, g.pend id → g'.pend id

theorem Ext.refl (L : Lim) (g : Ghost) (w : World) : Ext L g w g w :=
  ⟨rfl, rfl, rfl, Nat.le_refl _, fun _ _ h => h, fun _ _ _ => rfl, fun _ _ h => .inl h, fun _ h => h, fun _ _ _ _ => rfl, fun _ l h => ⟨l, h, .inl rfl⟩, fun _ _ h _ => ⟨h, rfl⟩,
    fun _ _ h _ => ⟨h, rfl, fun _ h => h⟩, fun _ _ _ _ _ => ⟨rfl, fun _ h => h⟩, fun _ _ h => h, fun _ _ _ => ⟨fun _ => rfl, fun _ h => h⟩, fun id _ h _ => ⟨id, h⟩, fun id _ h _ => ⟨id, h⟩, fun _ l h _ => ⟨l, h, rfl⟩, fun _ h => h⟩

theorem shape_congr {w w' : World} {b : Nat} (h : w'.heap[b]? = w.heap[b]?) : w'.shape? b = w.shape? b := by simp [World.shape?, h]

theorem Ext.trans {L : Lim} {g g' g'' : Ghost} {w w' w'' : World} (h : Ext L g w g' w') (k : Ext L g' w' g'' w'') : Ext L g w g'' w'' where
  os := k.os.trans h.os
  tape := k.tape.trans h.tape
  output := k.output.trans h.output
  size := Nat.le_trans h.size k.size
  mono := fun b o hi => k.mono b o (h.mono b o hi)
  cell := fun b o hi => (k.cell b o (h.mono b o hi)).trans (h.cell b o hi)
  blk := fun id b hb => by
    rcases h.blk id b hb with x | x
    · exact k.blk id b x
    · exact .inr (k.dead id x)
  dead := fun id hd => k.dead id (h.dead id hd)
  shape := fun id b hb hb'' => by
    rcases h.blk id b hb with x | x
    · exact (k.shape id b x hb'').trans (h.shape id b hb x)
    · have := g''.hd id (k.dead id x); rw [this] at hb''; simp at hb''
  tok := fun t l hl => by
    obtain ⟨l', h1, h2⟩ := h.tok t l hl
    obtain ⟨l'', k1, k2⟩ := k.tok t l' h1
    refine ⟨l'', k1, ?_⟩
    rcases h2 with rfl | h2
    · exact k2
    · rcases k2 with rfl | k2
      · exact .inr h2
      · exact .inr (Nat.lt_trans h2 k2)
  keepB := fun id b hb hlt => by
    obtain ⟨h1, h2⟩ := h.keepB id b hb hlt
    obtain ⟨k1, k2⟩ := k.keepB id b h1 hlt
    exact ⟨k1, k2.trans h2⟩
  keepT := fun t l hl hlt => by
    obtain ⟨a1, a2, a3⟩ := h.keepT t l hl hlt
    obtain ⟨b1, b2, b3⟩ := k.keepT t l a1 hlt
    exact ⟨b1, b2.trans a2, fun o ho => a3 o (b3 o ho)⟩
  out := fun b hb h1 h2 h3 => by
    obtain ⟨a1, a2⟩ := h.out b hb h1 h2 h3
    obtain ⟨b1, b2⟩ := k.out b (Nat.lt_of_lt_of_le hb h.size) (fun id e => by obtain ⟨id0, e0⟩ := h.newB id b e hb; exact h1 id0 e0)
      (fun t l' hl e => by obtain ⟨l, hl1, hl2⟩ := h.newT t l' hl (e ▸ hb); exact h2 t l hl1 (hl2.trans e)) (fun id e => by obtain ⟨id0, e0⟩ := h.newM id b e hb; exact h3 id0 e0)
    exact ⟨b1.trans a1, fun o ho => a2 o (b2 o ho)⟩
  mp := fun id b hb => k.mp id b (h.mp id b hb)
  keepM := fun id b hb => by
    obtain ⟨a1, a2⟩ := h.keepM id b hb
    obtain ⟨b1, b2⟩ := k.keepM id b (h.mp id b hb)
    exact ⟨fun hlt => (b1 hlt).trans (a1 hlt), fun o ho => a2 o (b2 o ho)⟩
  newM := fun id b hb hlt => by
    obtain ⟨id1, h1⟩ := k.newM id b hb (Nat.lt_of_lt_of_le hlt h.size)
    exact h.newM id1 b h1 hlt
  newB := fun id b hb hlt => by
    obtain ⟨id1, h1⟩ := k.newB id b hb (Nat.lt_of_lt_of_le hlt h.size)
    exact h.newB id1 b h1 hlt
  newT := fun t l'' hl hlt => by
    obtain ⟨l', k1, k2⟩ := k.newT t l'' hl (Nat.lt_of_lt_of_le hlt h.size)
    obtain ⟨l, h1, h2⟩ := h.newT t l' k1 (k2 ▸ hlt)
    exact ⟨l, h1, h2.trans k2⟩
  pend := fun id hp => k.pend id (h.pend id hp)

theorem V.mono {L : Lim} {g g' : Ghost} {w w' : World} (e : Ext L g w g' w') {a : AV} {v : Value} (h : V g w a v) : V g' w' a v := by
  induction h with
  | pv h => exact .pv (h.mono e.mono e.cell)
  | ptr h =>
    rcases e.blk _ _ h with k | k
    · exact .ptr k
    · exact .ptrD k
  | ptrD h => exact .ptrD (e.dead _ h)
  | gptr gl off => exact .gptr gl off
  | eptr off f h =>
    refine .eptr off f (fun j c hj => ?_)
    obtain ⟨h1, h2, h3⟩ := h j c hj
    exact ⟨e.mono _ _ h1, by rw [e.cell _ _ h1]; exact h2, h3.mono e.mono e.cell⟩
  | capped h => exact .capped (h.mono e.mono e.cell)
  | own h hcap ht hn hf =>
    obtain ⟨l', h1, h2⟩ := e.tok _ _ ht
    refine .own (h.mono e.mono e.cell) hcap h1 ?_ ?_
    · rcases h2 with rfl | h2
      · exact hn
      · omega
    · rcases h2 with rfl | h2
      · exact hf
      · intro; omega
  | ref h hcap hs hn =>
    rcases e.blk _ _ h with k | k
    · exact .ref k hcap ((e.shape _ _ h k).trans hs) hn
    · exact .refD k
  | refD h => exact .refD (e.dead _ h)
  | junk => exact .junk
  | mref h => exact .mref (e.mp _ _ h)
  | func hl hm _ _ ih ik => exact .func hl hm ih ik
  | iface _ ih => exact .iface ih
  | agg hl _ ih => exact .agg hl ih
  | tuple hl _ ih => exact .tuple hl ih

theorem VL.mono {L : Lim} {g g' : Ghost} {w w' : World} (e : Ext L g w g' w') {cs : List AV} {vs : List Value} (h : VL g w cs vs) : VL g' w' cs vs :=
  ⟨h.len, fun i c v h1 h2 => (h.at_ i c v h1 h2).mono e⟩

structure Inv (E : Env) (g : Ghost) (w : World) (s : Sto) : Prop where
  blkN : ∀ id b, g.blk id = some b → id < s.bs.length
  deadN : ∀ id, g.dead id → id < s.bs.length
  blk : ∀ id b, g.blk id = some b → ∃ cs vs e, s.bs[id]? = some cs ∧ w.heap[b]? = some (.cells ⟨vs⟩ e (0, 0)) ∧ cs.length ≤ vs.length ∧ VL g w cs (vs.take cs.length)
  blkI : ∀ id b o, g.blk id = some b → ¬ g.I b o
  deadE : ∀ id, g.dead id → s.bs[id]? = some []
  pendN : ∀ id, g.pend id → id < s.bs.length ∧ g.blk id = none ∧ ¬ g.dead id
  allB : ∀ id, id < s.bs.length → (∃ b, g.blk id = some b) ∨ g.dead id ∨ g.pend id ∨ ∃ b, g.mp id = some b
  mp : ∀ id b, g.mp id = some b → ∃ es clock, s.bs[id]? = some [.mobj es clock] ∧ w.heap[b]? = some (.map (List.toArray es) clock)
  mpX : ∀ id b, g.mp id = some b → g.blk id = none ∧ ¬ g.dead id ∧ ¬ g.pend id
  injM : ∀ id id' b, g.mp id = some b → g.mp id' = some b → id = id'
  tokN : ∀ t n k, s.ts[t]? = some (n, k) → ∃ l, g.tok t = some l ∧ l.n = n ∧ l.sz = k
  tokL : ∀ t l, g.tok t = some l → s.ts[t]? = some (l.n, l.sz)
  tok : ∀ t l, g.tok t = some l → ∃ vs e, w.heap[l.b]? = some (.cells ⟨vs⟩ e (0, 0)) ∧ vs.length = l.cap * l.sz ∧ l.n ≤ l.cap ∧ l.sz ≠ 0
  tokI : ∀ t l o, g.tok t = some l → l.n * l.sz ≤ o → ¬ g.I l.b o
  injB : ∀ id id' b, g.blk id = some b → g.blk id' = some b → id = id'
  injT : ∀ t t' l l', g.tok t = some l → g.tok t' = some l' → l.b = l'.b → t = t'
  injBT : ∀ id b t l, g.blk id = some b → g.tok t = some l → b ≠ l.b
  Ilt : ∀ b o, g.I b o → b < w.heap.size
  glob : ∀ gl row, E.G gl = some row → ∀ j c, row[j]? = some c → ∃ v, g.I gl j ∧ w.cell? ⟨gl, j, none⟩ = some v ∧ VP g.I w c v

theorem Inv.blkLt {E : Env} {g : Ghost} {w : World} {s : Sto} (h : Inv E g w s) {id b : Nat} (hb : g.blk id = some b) : b < w.heap.size := by
  obtain ⟨cs, vs, e, _, h2, _, _⟩ := h.blk id b hb
  rcases Nat.lt_or_ge b w.heap.size with k | k
  · exact k
  · simp [Array.getElem?_eq_none k] at h2
theorem lt_of_heap {w : World} {b : Nat} {o : Obj} (h : w.heap[b]? = some o) : b < w.heap.size := by
  rcases Nat.lt_or_ge b w.heap.size with k | k
  · exact k
  · simp [Array.getElem?_eq_none k] at h
theorem Inv.mpLt {E : Env} {g : Ghost} {w : World} {s : Sto} (h : Inv E g w s) {id b : Nat} (hb : g.mp id = some b) : b < w.heap.size := by
  obtain ⟨_, _, _, h2⟩ := h.mp id b hb
  exact lt_of_heap h2
theorem Inv.mpN {E : Env} {g : Ghost} {w : World} {s : Sto} (h : Inv E g w s) {id b : Nat} (hb : g.mp id = some b) : id < s.bs.length := by
  obtain ⟨_, _, h1, _⟩ := h.mp id b hb
  exact (List.getElem?_eq_some_iff.1 h1).1
theorem Inv.mpKeep {E : Env} {g : Ghost} {w w' : World} {s s' : Sto} (h : Inv E g w s) (hs : ∀ id b, g.mp id = some b → s'.bs[id]? = s.bs[id]?) (hw : ∀ id b, g.mp id = some b → w'.heap[b]? = w.heap[b]?) :
    ∀ id b, g.mp id = some b → ∃ es clock, s'.bs[id]? = some [.mobj es clock] ∧ w'.heap[b]? = some (.map (List.toArray es) clock) := fun id b hb => by
  obtain ⟨es, c, h1, h2⟩ := h.mp id b hb
  exact ⟨es, c, (hs id b hb).trans h1, (hw id b hb).trans h2⟩
theorem Inv.mpNe {E : Env} {g : Ghost} {w : World} {s : Sto} (h : Inv E g w s) {id id' b b' : Nat} (hb : g.blk id = some b) (hb' : g.mp id' = some b') : id ≠ id' := fun e => by
  have := (h.mpX id' b' hb').1
  rw [← e, hb] at this; simp at this
/-- A map is no block of cells. -/
theorem Inv.mpB {E : Env} {g : Ghost} {w : World} {s : Sto} (h : Inv E g w s) {id id' b : Nat} (hb : g.mp id = some b) : g.blk id' ≠ some b := fun e => by
  obtain ⟨_, _, _, h2⟩ := h.mp id b hb
  obtain ⟨_, _, _, _, h3, _⟩ := h.blk id' b e
  rw [h2] at h3; simp at h3
theorem Inv.mpT {E : Env} {g : Ghost} {w : World} {s : Sto} (h : Inv E g w s) {id b : Nat} {t : Nat} {l : TokLoc} (hb : g.mp id = some b) (hl : g.tok t = some l) : b ≠ l.b := fun e => by
  obtain ⟨_, _, _, h2⟩ := h.mp id b hb
  obtain ⟨_, _, h3, _⟩ := h.tok t l hl
  rw [e, h3] at h2; simp at h2
theorem Inv.tokLt {E : Env} {g : Ghost} {w : World} {s : Sto} (h : Inv E g w s) {t : Nat} {l : TokLoc} (hl : g.tok t = some l) : l.b < w.heap.size := by
  obtain ⟨vs, e, h2, _⟩ := h.tok t l hl
  rcases Nat.lt_or_ge l.b w.heap.size with k | k
  · exact k
  · simp [Array.getElem?_eq_none k] at h2

end Go.Tel
