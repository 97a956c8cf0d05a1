/-
  The relation between abstract and concrete states, and what it keeps.
-/
import Derived.Test.YtcmeadgdojfhnaaGreatDoorEvA
set_option linter.unusedSimpArgs false
set_option linter.unusedVariables false
namespace Go.Tel
structure TokLoc where
  b : Nat
  cap : Nat
  sz : Nat
  n : Nat
  e : TypeId
structure Ghost where
  blk : Nat → Option Nat
  dead : Nat → Prop
  pend : Nat → Prop
  tok : Nat → Option TokLoc
  mp : Nat → Option Nat
  I : Nat → Nat → Prop
  hd : ∀ id, dead id → blk id = none
inductive VP (I : Nat → Nat → Prop) (w : World) : PV → Value → Prop where
  | sc (v : Value) : VP I w (.sc v) v
  | list (rows : List (List PV)) (base : Option Addr) (cap b o sz : Nat) (f : Nat → Nat → Value)
      (hcap : rows.length ≤ cap)
      (hsz : ∀ row ∈ rows, row.length = sz)
      (hbase : rows ≠ [] → sz ≠ 0 → base = some ⟨b, o, none⟩)
      (hc : ∀ i row j c, rows[i]? = some row → row[j]? = some c → I b (o + i * sz + j) ∧ w.cell? ⟨b, o + i * sz + j, none⟩ = some (f i j))
      (hv : ∀ i row j c, rows[i]? = some row → row[j]? = some c → VP I w c (f i j)) :
      VP I w (.list rows) (.slice base rows.length cap)
structure RowsAt (I : Nat → Nat → Prop) (w : World) (rows : List (List PV)) (base : Option Addr) (b o sz : Nat) (f : Nat → Nat → Value) : Prop where
  hsz : ∀ row ∈ rows, row.length = sz
  hbase : rows ≠ [] → sz ≠ 0 → base = some ⟨b, o, none⟩
  hc : ∀ i row j c, rows[i]? = some row → row[j]? = some c → I b (o + i * sz + j) ∧ w.cell? ⟨b, o + i * sz + j, none⟩ = some (f i j)
  hv : ∀ i row j c, rows[i]? = some row → row[j]? = some c → VP I w c (f i j)
theorem VP.mono {I I' : Nat → Nat → Prop} {w w' : World} (hI : ∀ b o, I b o → I' b o) (hw : ∀ b o, I b o → w'.cell? ⟨b, o, none⟩ = w.cell? ⟨b, o, none⟩)
    {p : PV} {v : Value} (h : VP I w p v) : VP I' w' p v := by
  induction h with
  | sc v => exact .sc v
  | list rows base cap b o sz f hcap hsz hbase hc _ ih =>
    refine .list rows base cap b o sz f hcap hsz hbase (fun i row j c hr hj => ?_) ih
    grind
theorem RowsAt.mono {I I' : Nat → Nat → Prop} {w w' : World} (hI : ∀ b o, I b o → I' b o) (hw : ∀ b o, I b o → w'.cell? ⟨b, o, none⟩ = w.cell? ⟨b, o, none⟩)
    {rows : List (List PV)} {base : Option Addr} {b o sz : Nat} {f : Nat → Nat → Value} (h : RowsAt I w rows base b o sz f) : RowsAt I' w' rows base b o sz f := by
  refine ⟨h.hsz, h.hbase, fun i row j c hr hj => ?_, fun i row j c hr hj => (h.hv i row j c hr hj).mono hI hw⟩
  obtain ⟨h1, h2⟩ := h.hc i row j c hr hj
  grind
theorem RowsAt.nil {I : Nat → Nat → Prop} {w : World} {base : Option Addr} {b o sz : Nat} {f : Nat → Nat → Value} : RowsAt I w [] base b o sz f :=
  ⟨by simp, by simp, by simp, by simp⟩
theorem VP.of_rows {I : Nat → Nat → Prop} {w : World} {rows : List (List PV)} {base : Option Addr} {b o sz cap : Nat} {f : Nat → Nat → Value}
    (h : RowsAt I w rows base b o sz f) (hc : rows.length ≤ cap) : VP I w (.list rows) (.slice base rows.length cap) :=
  .list rows base cap b o sz f hc h.hsz h.hbase h.hc h.hv
theorem VP.rows {I : Nat → Nat → Prop} {w : World} {rows : List (List PV)} {v : Value} (h : VP I w (.list rows) v) :
    ∃ base cap b o sz f, v = .slice base rows.length cap ∧ rows.length ≤ cap ∧ RowsAt I w rows base b o sz f := by
  cases h with
  | list _ base cap b o sz f hcap hsz hbase hc hv => exact ⟨base, cap, b, o, sz, f, rfl, hcap, hsz, hbase, hc, hv⟩
theorem VP.scv {I : Nat → Nat → Prop} {w : World} {u v : Value} (h : VP I w (.sc u) v) : v = u := by cases h; rfl
inductive V (g : Ghost) (w : World) : AV → Value → Prop where
  | pv {p : PV} {v : Value} (h : VP g.I w p v) : V g w (.pv p) v
  | ptr {id off b : Nat} (h : g.blk id = some b) : V g w (.ptr id off) (.pointer (some ⟨b, off, none⟩))
  | ptrD {id off : Nat} {a : Option Addr} (h : g.dead id) : V g w (.ptr id off) (.pointer a)
  | gptr (gl off : Nat) : V g w (.gptr gl off) (.pointer (some ⟨gl, off, none⟩))
  | eptr {row : List PV} {b o : Nat} (off : Nat) (f : Nat → Value)
      (h : ∀ j c, row[j]? = some c → g.I b (o + j) ∧ w.cell? ⟨b, o + j, none⟩ = some (f j) ∧ VP g.I w c (f j)) :
      V g w (.eptr row off) (.pointer (some ⟨b, o + off, none⟩))
  | capped {rows : List (List PV)} {base : Option Addr} {b o sz : Nat} {f : Nat → Nat → Value} (h : RowsAt g.I w rows base b o sz f) :
      V g w (.capped rows) (.slice base rows.length rows.length)
  | own {t : Nat} {rows : List (List PV)} {base : Option Addr} {b o sz cap : Nat} {f : Nat → Nat → Value} {l : TokLoc} (h : RowsAt g.I w rows base b o sz f)
      (hcap : rows.length ≤ cap) (ht : g.tok t = some l) (hn : rows.length ≤ l.n)
      (hf : rows.length = l.n → base = some ⟨l.b, 0, none⟩ ∧ cap = l.cap ∧ sz = l.sz ∧ b = l.b ∧ o = 0) :
      V g w (.own t rows) (.slice base rows.length cap)
  | ref {id off len sz b cap n : Nat} {e : TypeId} (h : g.blk id = some b) (hcap : len ≤ cap) (hs : w.shape? b = some (e, n)) (hn : off + cap * sz ≤ n) :
      V g w (.ref id off len sz) (.slice (some ⟨b, off, none⟩) len cap)
  | refD {id off len sz n c : Nat} {a : Option Addr} (h : g.dead id) : V g w (.ref id off len sz) (.slice a n c)
  | junk {a : Option Addr} : V g w .junk (.pointer a)
  | mref {id b : Nat} (h : g.mp id = some b) : V g w (.mref id) (.map (some b))
  | bz {id b n : Nat} {t : TypeId} (h : g.blk id = some b) (hs : w.shape? b = some (t, n)) : V g w (.bz id t n) (.pointer none)
  | bzD {id n : Nat} {t : TypeId} (h : g.dead id) : V g w (.bz id t n) (.pointer none)
  | func {fn : Fn} {first captured : List AV} {vs us : List Value} (hl : first.length = vs.length) (hm : captured.length = us.length)
      (h : ∀ (i : Nat) c v, first[i]? = some c → vs[i]? = some v → V g w c v) (k : ∀ (i : Nat) c v, captured[i]? = some c → us[i]? = some v → V g w c v) :
      V g w (.func fn first captured) (.func fn vs.toArray us.toArray)
  | iface {t : TypeId} {x : AV} {v : Value} (h : V g w x v) : V g w (.iface t x) (.iface t v)
  | agg {cs : List AV} {vs : List Value} (hl : cs.length = vs.length) (h : ∀ (i : Nat) c v, cs[i]? = some c → vs[i]? = some v → V g w c v) : V g w (.agg cs) (.agg vs.toArray)
  | tuple {cs : List AV} {vs : List Value} (hl : cs.length = vs.length) (h : ∀ (i : Nat) c v, cs[i]? = some c → vs[i]? = some v → V g w c v) : V g w (.tuple cs) (.tuple vs.toArray)
structure VL (g : Ghost) (w : World) (cs : List AV) (vs : List Value) : Prop where
  len : cs.length = vs.length
  at_ : ∀ (i : Nat) c v, cs[i]? = some c → vs[i]? = some v → V g w c v
theorem VL.nil {g : Ghost} {w : World} : VL g w [] [] := ⟨rfl, by simp⟩
theorem VL.cons {g : Ghost} {w : World} {c : AV} {v : Value} {cs : List AV} {vs : List Value} (h : V g w c v) (k : VL g w cs vs) : VL g w (c :: cs) (v :: vs) :=
  ⟨by simp [k.len], fun i => by
    cases i with
    | zero => grind
    | succ i => simpa using k.at_ i⟩
theorem VL.head {g : Ghost} {w : World} {c : AV} {v : Value} {cs : List AV} {vs : List Value} (h : VL g w (c :: cs) (v :: vs)) : V g w c v := h.at_ 0 c v rfl rfl
theorem VL.tail {g : Ghost} {w : World} {c : AV} {v : Value} {cs : List AV} {vs : List Value} (h : VL g w (c :: cs) (v :: vs)) : VL g w cs vs :=
  ⟨by have := h.len; grind, fun i c v h1 h2 => h.at_ (i + 1) c v (by grind) (by grind)⟩
theorem VL.cases {g : Ghost} {w : World} {c : AV} {cs : List AV} {vs : List Value} (h : VL g w (c :: cs) vs) : ∃ u us, vs = u :: us ∧ V g w c u ∧ VL g w cs us := by
  cases vs with
  | nil => have := h.len; grind
  | cons u us => exact ⟨u, us, rfl, h.head, h.tail⟩
theorem VL.nil_inv {g : Ghost} {w : World} {vs : List Value} (h : VL g w [] vs) : vs = [] := by
  have := h.len; grind
theorem VL.append {g : Ghost} {w : World} {cs ds : List AV} {vs us : List Value} (h : VL g w cs vs) (k : VL g w ds us) : VL g w (cs ++ ds) (vs ++ us) := by
  induction cs generalizing vs with
  | nil => rw [h.nil_inv]; grind
  | cons c cs ih =>
    obtain ⟨u, us', rfl, h1, h2⟩ := h.cases
    grind[cons]
theorem VL.take {g : Ghost} {w : World} {cs : List AV} {vs : List Value} (h : VL g w cs vs) (n : Nat) : VL g w (cs.take n) (vs.take n) :=
  ⟨by simp [h.len], fun i c v h1 h2 => by
    rw [List.getElem?_take] at h1 h2
    split at h1
    · rename_i hi; rw [if_pos hi] at h2; exact h.at_ i c v h1 h2
    grind⟩
theorem VL.drop {g : Ghost} {w : World} {cs : List AV} {vs : List Value} (h : VL g w cs vs) (n : Nat) : VL g w (cs.drop n) (vs.drop n) :=
  ⟨by simp [h.len], fun i c v h1 h2 => by
    rw [List.getElem?_drop] at h1 h2
    exact h.at_ _ c v h1 h2⟩
theorem VL.get {g : Ghost} {w : World} {cs : List AV} {vs : List Value} (h : VL g w cs vs) {i : Nat} {c : AV} (hc : cs[i]? = some c) : ∃ v, vs[i]? = some v ∧ V g w c v := by
  have hi : i < vs.length := by
    rw [← h.len]
    grind
  exact ⟨vs[i], by simp, h.at_ i c _ hc (by simp)⟩
theorem VL.set {g : Ghost} {w : World} {cs : List AV} {vs : List Value} (h : VL g w cs vs) {c : AV} {v : Value} (i : Nat) (hv : V g w c v) : VL g w (cs.set i c) (vs.set i v) := by
  refine ⟨by simp [h.len], fun j c' v' h1 h2 => ?_⟩
  rw [List.getElem?_set] at h1 h2
  split at h1
  · grind
  · rename_i hij
    rw [if_neg hij] at h2
    exact h.at_ j c' v' h1 h2
structure Ext (L : Lim) (g : Ghost) (w : World) (g' : Ghost) (w' : World) : Prop where
  os : w'.os = w.os
  tape : w'.tape = w.tape
  output : w'.output = w.output
  size : w.heap.size ≤ w'.heap.size
  mono : ∀ b o, g.I b o → g'.I b o
  cell : ∀ b o, g.I b o → w'.cell? ⟨b, o, none⟩ = w.cell? ⟨b, o, none⟩
  blk : ∀ id b, g.blk id = some b → g'.blk id = some b ∨ g'.dead id
  dead : ∀ id, g.dead id → g'.dead id
  shape : ∀ id b, g.blk id = some b → g'.blk id = some b → w'.shape? b = w.shape? b
  tok : ∀ t l, g.tok t = some l → ∃ l', g'.tok t = some l' ∧ (l' = l ∨ l.n < l'.n)
  keepB : ∀ id b, g.blk id = some b → id < L.ro → g'.blk id = some b ∧ w'.heap[b]? = w.heap[b]?
  keepT : ∀ t l, g.tok t = some l → t < L.rt → g'.tok t = some l ∧ w'.heap[l.b]? = w.heap[l.b]? ∧ ∀ o, g'.I l.b o → g.I l.b o
  out : ∀ b, b < w.heap.size → (∀ id, g.blk id ≠ some b) → (∀ t l, g.tok t = some l → l.b ≠ b) → (∀ id, g.mp id ≠ some b) → w'.heap[b]? = w.heap[b]? ∧ ∀ o, g'.I b o → g.I b o
  mp : ∀ id b, g.mp id = some b → g'.mp id = some b
  keepM : ∀ id b, g.mp id = some b → (id < L.ro → w'.heap[b]? = w.heap[b]?) ∧ ∀ o, g'.I b o → g.I b o
  newM : ∀ id b, g'.mp id = some b → b < w.heap.size → ∃ id0, g.mp id0 = some b
  newB : ∀ id b, g'.blk id = some b → b < w.heap.size → ∃ id0, g.blk id0 = some b
  newT : ∀ t l', g'.tok t = some l' → l'.b < w.heap.size → ∃ l, g.tok t = some l ∧ l.b = l'.b
  pend : ∀ id, g.pend id → g'.pend id
theorem Ext.refl (L : Lim) (g : Ghost) (w : World) : Ext L g w g w :=
  ⟨rfl, rfl, rfl, Nat.le_refl _, fun _ _ h => h, fun _ _ _ => rfl, fun _ _ h => .inl h, fun _ h => h, fun _ _ _ _ => rfl, fun _ l h => ⟨l, h, .inl rfl⟩, fun _ _ h _ => ⟨h, rfl⟩,
    fun _ _ h _ => ⟨h, rfl, fun _ h => h⟩, fun _ _ _ _ _ => ⟨rfl, fun _ h => h⟩, fun _ _ h => h, fun _ _ _ => ⟨fun _ => rfl, fun _ h => h⟩, fun id _ h _ => ⟨id, h⟩, fun id _ h _ => ⟨id, h⟩, fun _ l h _ => ⟨l, h, rfl⟩, fun _ h => h⟩
theorem shape_congr {w w' : World} {b : Nat} (h : w'.heap[b]? = w.heap[b]?) : w'.shape? b = w.shape? b := by grind[World.shape?]
theorem Ext.trans {L : Lim} {g g' g'' : Ghost} {w w' w'' : World} (h : Ext L g w g' w') (k : Ext L g' w' g'' w'') : Ext L g w g'' w'' where
  os := k.os.trans h.os
  tape := k.tape.trans h.tape
  output := k.output.trans h.output
  size := Nat.le_trans h.size k.size
  mono := fun b o hi => k.mono b o (h.mono b o hi)
  cell := fun b o hi => (k.cell b o (h.mono b o hi)).trans (h.cell b o hi)
  blk := fun id b hb => by
    rcases h.blk id b hb with x | x
    · exact k.blk id b x
    · exact .inr (k.dead id x)
  dead := fun id hd => k.dead id (h.dead id hd)
  shape := fun id b hb hb'' => by
    rcases h.blk id b hb with x | x
    · exact (k.shape id b x hb'').trans (h.shape id b hb x)
    · have := g''.hd id (k.dead id x); grind
  tok := fun t l hl => by
    obtain ⟨l', h1, h2⟩ := h.tok t l hl
    obtain ⟨l'', k1, k2⟩ := k.tok t l' h1
    grind
  keepB := fun id b hb hlt => by
    obtain ⟨h1, h2⟩ := h.keepB id b hb hlt
    obtain ⟨k1, k2⟩ := k.keepB id b h1 hlt
    grind
  keepT := fun t l hl hlt => by
    obtain ⟨a1, a2, a3⟩ := h.keepT t l hl hlt
    obtain ⟨b1, b2, b3⟩ := k.keepT t l a1 hlt
    grind
  out := fun b hb h1 h2 h3 => by
    obtain ⟨a1, a2⟩ := h.out b hb h1 h2 h3
    obtain ⟨b1, b2⟩ := k.out b (Nat.lt_of_lt_of_le hb h.size) (fun id e => by obtain ⟨id0, e0⟩ := h.newB id b e hb; grind)
      (fun t l' hl e => by obtain ⟨l, hl1, hl2⟩ := h.newT t l' hl (e ▸ hb); grind) (fun id e => by obtain ⟨id0, e0⟩ := h.newM id b e hb; grind)
    grind
  mp := fun id b hb => k.mp id b (h.mp id b hb)
  keepM := fun id b hb => by
    obtain ⟨a1, a2⟩ := h.keepM id b hb
    obtain ⟨b1, b2⟩ := k.keepM id b (h.mp id b hb)
    grind
  newM := fun id b hb hlt => by
    obtain ⟨id1, h1⟩ := k.newM id b hb (Nat.lt_of_lt_of_le hlt h.size)
    exact h.newM id1 b h1 hlt
  newB := fun id b hb hlt => by
    obtain ⟨id1, h1⟩ := k.newB id b hb (Nat.lt_of_lt_of_le hlt h.size)
    exact h.newB id1 b h1 hlt
  newT := fun t l'' hl hlt => by
    obtain ⟨l', k1, k2⟩ := k.newT t l'' hl (Nat.lt_of_lt_of_le hlt h.size)
    obtain ⟨l, h1, h2⟩ := h.newT t l' k1 (k2 ▸ hlt)
    grind
  pend := fun id hp => k.pend id (h.pend id hp)
theorem V.mono {L : Lim} {g g' : Ghost} {w w' : World} (e : Ext L g w g' w') {a : AV} {v : Value} (h : V g w a v) : V g' w' a v := by
  induction h with
  | pv h => exact .pv (h.mono e.mono e.cell)
  | ptr h =>
    rcases e.blk _ _ h with k | k
    all_goals grind[ptr,ptrD]
  | ptrD h => exact .ptrD (e.dead _ h)
  | gptr gl off => grind[gptr]
  | eptr off f h =>
    refine .eptr off f (fun j c hj => ?_)
    obtain ⟨h1, h2, h3⟩ := h j c hj
    exact ⟨e.mono _ _ h1, by rw [e.cell _ _ h1]; omega, h3.mono e.mono e.cell⟩
  | capped h => exact .capped (h.mono e.mono e.cell)
  | own h hcap ht hn hf =>
    obtain ⟨l', h1, h2⟩ := e.tok _ _ ht
    refine .own (h.mono e.mono e.cell) hcap h1 ?_ ?_
    all_goals grind
  | ref h hcap hs hn =>
    rcases e.blk _ _ h with k | k
    · exact .ref k hcap ((e.shape _ _ h k).trans hs) hn
    grind[refD]
  | refD h => exact .refD (e.dead _ h)
  | junk => exact .junk
  | mref h => exact .mref (e.mp _ _ h)
  | bz h hs =>
    rcases e.blk _ _ h with k | k
    · exact .bz k ((e.shape _ _ h k).trans hs)
    · exact .bzD k
  | bzD h => exact .bzD (e.dead _ h)
  | func hl hm _ _ ih ik => grind[func]
  | iface _ ih => exact .iface ih
  | agg hl _ ih => grind[agg]
  | tuple hl _ ih => grind[tuple]
theorem VL.mono {L : Lim} {g g' : Ghost} {w w' : World} (e : Ext L g w g' w') {cs : List AV} {vs : List Value} (h : VL g w cs vs) : VL g' w' cs vs :=
  ⟨h.len, fun i c v h1 h2 => (h.at_ i c v h1 h2).mono e⟩
structure Inv (E : Env) (g : Ghost) (w : World) (s : Sto) : Prop where
  blkN : ∀ id b, g.blk id = some b → id < s.bs.length
  deadN : ∀ id, g.dead id → id < s.bs.length
  blk : ∀ id b, g.blk id = some b → ∃ cs vs e, s.bs[id]? = some cs ∧ w.heap[b]? = some (.cells ⟨vs⟩ e (0, 0)) ∧ cs.length ≤ vs.length ∧ VL g w cs (vs.take cs.length)
  blkI : ∀ id b o, g.blk id = some b → ¬ g.I b o
  deadE : ∀ id, g.dead id → s.bs[id]? = some []
  pendN : ∀ id, g.pend id → id < s.bs.length ∧ g.blk id = none ∧ ¬ g.dead id
  allB : ∀ id, id < s.bs.length → (∃ b, g.blk id = some b) ∨ g.dead id ∨ g.pend id ∨ ∃ b, g.mp id = some b
  mp : ∀ id b, g.mp id = some b → ∃ es clock, s.bs[id]? = some [.mobj es clock] ∧ w.heap[b]? = some (.map (List.toArray es) clock)
  mpX : ∀ id b, g.mp id = some b → g.blk id = none ∧ ¬ g.dead id ∧ ¬ g.pend id
  injM : ∀ id id' b, g.mp id = some b → g.mp id' = some b → id = id'
  tokN : ∀ t n k, s.ts[t]? = some (n, k) → ∃ l, g.tok t = some l ∧ l.n = n ∧ l.e = k
  tokL : ∀ t l, g.tok t = some l → s.ts[t]? = some (l.n, l.e)
  tok : ∀ t l, g.tok t = some l → ∃ vs fz, w.heap[l.b]? = some (.cells ⟨vs⟩ l.e fz) ∧ vs.length = l.cap * l.sz ∧ l.n ≤ l.cap ∧ l.sz ≠ 0 ∧ fz.2 ≤ l.n * l.sz ∧ sizeA E.P l.e = some l.sz
  tokI : ∀ t l o, g.tok t = some l → l.n * l.sz ≤ o → ¬ g.I l.b o
  injB : ∀ id id' b, g.blk id = some b → g.blk id' = some b → id = id'
  injT : ∀ t t' l l', g.tok t = some l → g.tok t' = some l' → l.b = l'.b → t = t'
  injBT : ∀ id b t l, g.blk id = some b → g.tok t = some l → b ≠ l.b
  Ilt : ∀ b o, g.I b o → b < w.heap.size
  glob : ∀ gl row, E.G gl = some row → ∀ j c, row[j]? = some c → ∃ v, g.I gl j ∧ w.cell? ⟨gl, j, none⟩ = some v ∧ VP g.I w c v
  globN : ∀ gl row, E.G gl = some row → g.I gl row.length ∧ w.cell? ⟨gl, row.length, none⟩ = none
theorem Inv.blkLt {E : Env} {g : Ghost} {w : World} {s : Sto} (h : Inv E g w s) {id b : Nat} (hb : g.blk id = some b) : b < w.heap.size := by
  obtain ⟨cs, vs, e, _, h2, _, _⟩ := h.blk id b hb
  grind
theorem lt_of_heap {w : World} {b : Nat} {o : Obj} (h : w.heap[b]? = some o) : b < w.heap.size := by grind
theorem Inv.mpLt {E : Env} {g : Ghost} {w : World} {s : Sto} (h : Inv E g w s) {id b : Nat} (hb : g.mp id = some b) : b < w.heap.size := by
  obtain ⟨_, _, _, h2⟩ := h.mp id b hb
  grind
theorem Inv.mpN {E : Env} {g : Ghost} {w : World} {s : Sto} (h : Inv E g w s) {id b : Nat} (hb : g.mp id = some b) : id < s.bs.length := by
  obtain ⟨_, _, h1, _⟩ := h.mp id b hb
  grind
theorem Inv.mpKeep {E : Env} {g : Ghost} {w w' : World} {s s' : Sto} (h : Inv E g w s) (hs : ∀ id b, g.mp id = some b → s'.bs[id]? = s.bs[id]?) (hw : ∀ id b, g.mp id = some b → w'.heap[b]? = w.heap[b]?) :
    ∀ id b, g.mp id = some b → ∃ es clock, s'.bs[id]? = some [.mobj es clock] ∧ w'.heap[b]? = some (.map (List.toArray es) clock) := fun id b hb => by
  obtain ⟨es, c, h1, h2⟩ := h.mp id b hb
  grind
theorem Inv.mpNe {E : Env} {g : Ghost} {w : World} {s : Sto} (h : Inv E g w s) {id id' b b' : Nat} (hb : g.blk id = some b) (hb' : g.mp id' = some b') : id ≠ id' := fun e => by
  have := (h.mpX id' b' hb').1
  grind
theorem Inv.mpB {E : Env} {g : Ghost} {w : World} {s : Sto} (h : Inv E g w s) {id id' b : Nat} (hb : g.mp id = some b) : g.blk id' ≠ some b := fun e => by
  obtain ⟨_, _, _, h2⟩ := h.mp id b hb
  obtain ⟨_, _, _, _, h3, _⟩ := h.blk id' b e
  grind
theorem Inv.mpT {E : Env} {g : Ghost} {w : World} {s : Sto} (h : Inv E g w s) {id b : Nat} {t : Nat} {l : TokLoc} (hb : g.mp id = some b) (hl : g.tok t = some l) : b ≠ l.b := fun e => by
  obtain ⟨_, _, _, h2⟩ := h.mp id b hb
  obtain ⟨_, _, h3, _⟩ := h.tok t l hl
  grind
theorem Inv.tokLt {E : Env} {g : Ghost} {w : World} {s : Sto} (h : Inv E g w s) {t : Nat} {l : TokLoc} (hl : g.tok t = some l) : l.b < w.heap.size := by
  obtain ⟨vs, e, h2, _⟩ := h.tok t l hl
  grind
end Go.Tel
/-
  Single operations: what the evaluator answers is what the model does. Part 1: values, loads, stores, new blocks.
-/
namespace Go.Tel
theorem quick_run (P : Program) {α : Type} (s : Sem α) (a : α) (h : quick P s = some a) (w : World) : s.run P w = .ok a w := by
  induction s with
  | pure x => simp_all[quick]
  | program k ih => grind[quick,Sem.run]
  | mark m k ih => grind[quick,Sem.run]
  | load => grind[quick]
  | store => grind[quick]
  | new => grind[quick]
  | shape => grind[quick]
  | freeze => grind[quick]
  | frozen => grind[quick]
  | getObj => grind[quick]
  | setObj => grind[quick]
  | choose => grind[quick]
  | sys => grind[quick]
  | halt => grind[quick]
theorem V.scv {g : Ghost} {w : World} (v : Value) : V g w (scv v) v := .pv (.sc v)
theorem V.scv_inv {g : Ghost} {w : World} {u v : Value} (h : V g w (.pv (.sc u)) v) : v = u := by cases h with | pv h => exact h.scv
theorem VL.scvs {g : Ghost} {w : World} (vs : List Value) : VL g w (vs.map Tel.scv) vs := by
  induction vs with
  | nil => exact .nil
  | cons v vs ih => exact .cons (.scv v) ih
theorem VL.map {g : Ghost} {w : World} {f : Value → AV} (hf : ∀ v, V g w (f v) v) (vs : List Value) : VL g w (vs.map f) vs := by
  induction vs with
  | nil => exact .nil
  | cons v vs ih => grind[cons]
theorem V.ofVal {g : Ghost} {w : World} (v : Value) : V g w (ofVal v) v := by
  unfold Tel.ofVal
  split
  · rename_i cs; have h := VL.scvs (g := g) (w := w) cs.toList; exact .agg h.len h.at_
  · rename_i vs; have h := VL.scvs (g := g) (w := w) vs.toList; exact .tuple h.len h.at_
  · exact .scv _
theorem V.ofCell {g : Ghost} {w : World} (v : Value) : V g w (ofCell v) v := by
  unfold Tel.ofCell
  split
  · exact .capped (b := 0) (o := 0) (sz := 0) (f := fun _ _ => undef) .nil
  · exact .scv _
theorem V.ofConst {g : Ghost} {w : World} (v : Value) : V g w (ofConst v) v := by
  unfold Tel.ofConst
  split
  · rename_i cs; have h := VL.map (g := g) (w := w) (V.ofCell) cs.toList; exact .agg h.len h.at_
  · rename_i vs; have h := VL.scvs (g := g) (w := w) vs.toList; exact .tuple h.len h.at_
  grind[V.ofCell]
theorem evalO_sound {g : Ghost} {w : World} {ρ : Nat → AV} {a : Act} (hρ : ∀ t, V g w (ρ t) (a.tmps.getD t undef)) (x : Operand) : V g w (evalO ρ x) (a.eval x) := by
  cases x with
  | tmp t => exact hρ t
  | const v => exact V.ofConst v
  | global gl => exact .gptr gl 0
  | func f => exact .func (vs := []) (us := []) rfl rfl (by simp) (by simp)
theorem V.agg' {g : Ghost} {w : World} {cs : List AV} {vs : List Value} (h : VL g w cs vs) : V g w (.agg cs) (.agg ⟨vs⟩) := .agg h.len h.at_
theorem V.tuple' {g : Ghost} {w : World} {cs : List AV} {vs : List Value} (h : VL g w cs vs) : V g w (.tuple cs) (.tuple ⟨vs⟩) := .tuple h.len h.at_
theorem V.agg_inv {g : Ghost} {w : World} {cs : List AV} {v : Value} (h : V g w (.agg cs) v) : ∃ vs, v = .agg ⟨vs⟩ ∧ VL g w cs vs := by
  cases h with | agg hl h => exact ⟨_, rfl, hl, h⟩
theorem V.tuple_inv {g : Ghost} {w : World} {cs : List AV} {v : Value} (h : V g w (.tuple cs) v) : ∃ vs, v = .tuple ⟨vs⟩ ∧ VL g w cs vs := by
  cases h with | tuple hl h => exact ⟨_, rfl, hl, h⟩
theorem V.undef {g : Ghost} {w : World} : V g w (.tuple []) undef := V.tuple' .nil
theorem okCell_one {g : Ghost} {w : World} {c : AV} {v : Value} (h : V g w c v) (hc : okCell c = true) : v.oneCell' = true := by
  cases h with
  | pv h =>
    cases h with
    | sc v => cases v <;> assumption
    | list => rfl
  | agg => assumption
  | tuple => assumption
  | ptr | ptrD | gptr | eptr | capped | own | ref | refD | junk | mref | func | iface | bz | bzD => rfl
theorem cells_one {v : Value} (h : v.oneCell' = true) : v.cells = #[v] := by cases v <;> simp_all [Value.cells, Value.oneCell']
theorem cellsOf_sound {g : Ghost} {w : World} {x : AV} {v : Value} (h : V g w x v) (hc : (cellsOf x).all okCell = true) : VL g w (cellsOf x) v.cells.toList := by
  cases x with
  | agg cs =>
    obtain ⟨vs, rfl, hl⟩ := h.agg_inv
    exact hl
  | tuple vs => grind[cellsOf,okCell]
  | _ =>
    have h1 := okCell_one h (by grind[cellsOf])
    rw [cells_one h1]
    exact .cons h .nil
theorem addr_add (b o n : Nat) : Addr.add ⟨b, o, none⟩ n = ⟨b, o + n, none⟩ := by grind[Addr.add]
theorem loadCellsFrom_run {P : Program} {w : World} {b o : Nat} (us : List Value) : ∀ (i : Nat) (acc : Array Value),
    (∀ (j : Nat) u, us[j]? = some u → w.cell? ⟨b, o + (i + j), none⟩ = some u) →
    (loadCellsFrom ⟨b, o, none⟩ i us.length acc).run P w = .ok (acc ++ us.toArray) w := by
  induction us with
  | nil => simp[*,loadCellsFrom]
  | cons u us ih =>
    intro i acc h
    have h0 := h 0 u rfl
    simp only [Nat.add_zero] at h0
    simp only [List.length_cons, loadCellsFrom, Sem.run_bind, run_load, addr_add, h0, Result.andThen_ok]
    rw [ih (i + 1) (acc.push u) (fun j u' hj => by have := h (j + 1) u' (by grind); grind)]
    simp
theorem loadCells_run {P : Program} {w : World} {b o : Nat} (us : List Value) (h : ∀ (j : Nat) u, us[j]? = some u → w.cell? ⟨b, o + j, none⟩ = some u) :
    (loadCells ⟨b, o, none⟩ us.length).run P w = .ok us.toArray w := by grind[loadCellsFrom_run,loadCells]
theorem run_underlying {P : Program} {w : World} {t : TypeId} {d : TypeDesc} (h : P.underlying t = some d) : (underlying t).run P w = .ok d w := by
  simp [underlying, h]
theorem run_typeInfo {P : Program} {w : World} {t : TypeId} {i : TypeInfo} (h : P.info? t = some i) : (typeInfo t).run P w = .ok i w := by
  simp [typeInfo, h]
theorem run_sizeOf {P : Program} {w : World} {t : TypeId} {i : TypeInfo} (h : P.info? t = some i) : (sizeOf t).run P w = .ok i.size w := by
  simp [sizeOf, run_typeInfo h]
theorem sizeA_info {P : Program} {t : TypeId} {k : Nat} (h : sizeA P t = some k) : ∃ i, P.info? t = some i ∧ i.size = k := by grind[sizeA]
theorem load_at {P : Program} {g : Ghost} {w : World} {cs : List AV} {us : List Value} {b o off : Nat} {t : TypeId} {v : AV}
    (hl : VL g w cs us) (hcell : ∀ (j : Nat) u, us[j]? = some u → w.cell? ⟨b, o + j, none⟩ = some u) (hp : partOf P t cs off = some v) :
    ∃ v', (Instr.loadAt t (.pointer (some ⟨b, o + off, none⟩))).run P w = .ok v' w ∧ V g w v v' := by
  unfold partOf at hp
  split at hp
  · rename_i d i hd hi
    have one : cs[off]? = some v → ∃ u, w.cell? ⟨b, o + off, none⟩ = some u ∧ V g w v u := by
      intro hv
      obtain ⟨u, h1, h2⟩ := hl.get hv
      grind
    have many : (if off + i.size ≤ cs.length ∧ i.size ≠ 0 then some (AV.agg ((cs.drop off).take i.size)) else none) = some v →
        ∃ us', (loadCells ⟨b, o + off, none⟩ i.size).run P w = .ok (List.toArray us') w ∧ V g w v (.agg ⟨us'⟩) := by
      intro hv
      split at hv
      · rename_i hle
        have hle := hle.1
        simp at hv; subst hv
        have hk := (hl.drop off).take i.size
        refine ⟨_, ?_, V.agg' hk⟩
        have hlen : ((us.drop off).take i.size).length = i.size := by
          have := hl.len
          grind
        grind[loadCells_run]
      grind
    cases d with
    | struct fs =>
      obtain ⟨us', h1, h2⟩ := many hp
      simp[*,Instr.loadAt,Instr.sureAddr,loadVar,isAgg,run_underlying,run_sizeOf]
    | array n e =>
      obtain ⟨us', h1, h2⟩ := many hp
      simp[*,Instr.loadAt,Instr.sureAddr,loadVar,isAgg,run_underlying,run_sizeOf]
    | _ =>
      obtain ⟨u, h1, h2⟩ := one hp
      simp[*,Instr.loadAt,Instr.sureAddr,loadVar,isAgg,run_underlying]
  grind
theorem cell_of_heap {w : World} {b o : Nat} {vs : List Value} {e : TypeId} {fz : Nat × Nat} (h : w.heap[b]? = some (.cells ⟨vs⟩ e fz)) : w.cell? ⟨b, o, none⟩ = vs[o]? := by grind[World.cell?]
theorem VPs_row {g : Ghost} {w : World} {row : List PV} {f : Nat → Value} (h : ∀ (j : Nat) c, row[j]? = some c → VP g.I w c (f j)) :
    VL g w (row.map .pv) ((List.range row.length).map f) := by
  refine ⟨by simp, fun i c v h1 h2 => ?_⟩
  rw [List.getElem?_map] at h1
  cases hr : row[i]? with
  | none => grind
  | some p =>
    simp [hr] at h1; subst h1
    have hi : i < row.length := by grind
    simp [List.getElem?_map, List.getElem?_range hi] at h2
    subst h2
    exact .pv (h i p hr)
theorem partOf_nil {P : Program} {t : TypeId} {off : Nat} (v : AV) : partOf P t [] off ≠ some v := by grind[partOf]
theorem loadA_sound {E : Env} {g : Ghost} {w : World} {s : Sto} (hI : Inv E g w s) {t : TypeId} {x v : AV} {xv : Value} (hx : V g w x xv) (h : loadA E s t x = some v) :
    ∃ v', (Instr.loadAt t xv).run E.P w = .ok v' w ∧ V g w v v' := by
  unfold loadA at h
  split at h
  · rename_i id off
    split at h
    · rename_i cs hcs
      cases hx with
      | @ptr _ _ b hb =>
        obtain ⟨cs', vs, e, h1, h2, hle, h3⟩ := hI.blk id b hb
        simp only [lookB] at hcs
        rw [hcs] at h1; simp at h1; subst h1
        have := load_at (P := E.P) (b := b) (o := 0) h3 (fun j u hj => by grind[cell_of_heap]) h
        grind
      | ptrD hd =>
        have := hI.deadE id hd
        grind[lookB,partOf_nil]
    grind
  · rename_i gl off
    split at h
    · rename_i row hrow
      cases hx with
      | gptr =>
        have hg := hI.glob gl row hrow
        have hex : ∀ j, ∃ v, ∀ c, row[j]? = some c → g.I gl j ∧ w.cell? ⟨gl, j, none⟩ = some v ∧ VP g.I w c v := by
          intro j
          cases hj : row[j]? with
          | none => simp
          | some c =>
            simp[*]
        have hf := fun j => Classical.choose_spec (hex j)
        have hl := VPs_row (g := g) (w := w) (row := row) (f := fun j => Classical.choose (hex j)) (fun j c hc => (hf j c hc).2.2)
        have := load_at (P := E.P) (b := gl) (o := 0) hl (fun j u hj => by
          have hi : j < row.length := by grind
          simp [List.getElem?_map, List.getElem?_range hi] at hj
          subst hj
          have := (hf j row[j] (by simp)).2.1
          grind) h
        grind
    grind
  · rename_i row off
    cases hx with
    | @eptr _ b o _ f hr =>
      have hl := VPs_row (g := g) (w := w) (row := row) (f := f) (fun j c hc => (hr j c hc).2.2)
      exact load_at (P := E.P) (b := b) (o := o) hl (fun j u hj => by
        have hi : j < row.length := by grind
        simp_all) h
  grind
theorem partOf_sound {P : Program} {g : Ghost} {w : World} {cs : List AV} {us : List Value} {off : Nat} {t : TypeId} {v : AV}
    (hl : VL g w cs us) (hp : partOf P t cs off = some v) : ∃ v', (part t ⟨us⟩ off).run P w = .ok v' w ∧ V g w v v' := by
  unfold partOf at hp
  split at hp
  · rename_i d i hd hi
    have one : cs[off]? = some v → ∃ u, us[off]? = some u ∧ V g w v u := fun hv => hl.get hv
    have many : (if off + i.size ≤ cs.length ∧ i.size ≠ 0 then some (AV.agg ((cs.drop off).take i.size)) else none) = some v → V g w v (.agg ((⟨us⟩ : Array Value).extract off (off + i.size))) := by
      intro hv
      split at hv
      · simp at hv; subst hv
        have hk := (hl.drop off).take i.size
        grind[V.agg']
      grind
    cases d with
    | struct fs => simp_all[part,isAgg,run_underlying,run_sizeOf]
    | array n e => simp_all[part,isAgg,run_underlying,run_sizeOf]
    | _ =>
      obtain ⟨u, h1, h2⟩ := one hp
      simp[*,part,isAgg,run_underlying]
  grind
end Go.Tel
/-
  Single operations, part 2: stores and new blocks.
-/
namespace Go.Tel
def setV (vs : List Value) (k : Nat) : List Value → List Value
  | [] => vs
  | u :: us => setV (vs.set k u) (k + 1) us
theorem setV_length (us : List Value) : ∀ (vs : List Value) (k : Nat), (setV vs k us).length = vs.length := by
  induction us with
  | nil => intro vs k; rfl
  | cons u us ih => grind[setV]
theorem setCells_length (us : List AV) : ∀ (vs : List AV) (k : Nat), (setCells vs k us).length = vs.length := by
  induction us with
  | nil => intro vs k; rfl
  | cons u us ih => grind[setCells]
theorem VL.setCells {g : Ghost} {w : World} {us : List AV} : ∀ {cs : List AV} {vs ws : List Value} (k : Nat), VL g w cs vs → VL g w us ws → VL g w (setCells cs k us) (setV vs k ws) := by
  induction us with
  | nil => intro cs vs ws k h1 h2; rw [h2.nil_inv]; exact h1
  | cons u us ih =>
    intro cs vs ws k h1 h2
    obtain ⟨x, xs, rfl, h3, h4⟩ := h2.cases
    exact ih (k + 1) (h1.set k h3) h4
def putRowB (w : World) (b : Nat) (vs : List Value) (e : TypeId) (fz : Nat × Nat := (0, 0)) : World := { w with heap := w.heap.setIfInBounds b (.cells ⟨vs⟩ e fz) }
theorem heap_putRowB (w : World) (b : Nat) (vs : List Value) (e : TypeId) (k : Nat) {fz : Nat × Nat} :
    (putRowB w b vs e fz).heap[k]? = if b = k then (if k < w.heap.size then some (.cells ⟨vs⟩ e fz) else none) else w.heap[k]? := by grind[putRowB]
theorem lt_of_getElem? {α : Type} {l : Array α} {i : Nat} {x : α} (h : l[i]? = some x) : i < l.size := by grind
theorem lt_of_getElem?L {α : Type} {l : List α} {i : Nat} {x : α} (h : l[i]? = some x) : i < l.length := by grind
theorem world_ext {w w' : World} (h1 : w.heap = w'.heap) (h2 : w.tape = w'.tape) (h3 : w.drawn = w'.drawn) (h4 : w.os = w'.os) (h5 : w.output = w'.output) : w = w' := by
  cases w; simp_all
theorem putRowB_same {w : World} {b : Nat} {vs : List Value} {e : TypeId} {fz : Nat × Nat} (h : w.heap[b]? = some (.cells ⟨vs⟩ e fz)) : putRowB w b vs e fz = w := by
  refine world_ext ?_ rfl rfl rfl rfl
  apply Array.ext_getElem?
  grind[heap_putRowB]
theorem setCell_row {w : World} {b o : Nat} {vs : List Value} {e : TypeId} {v : Value} {fz : Nat × Nat} (h : w.heap[b]? = some (.cells ⟨vs⟩ e fz)) :
    w.setCell ⟨b, o, none⟩ v = putRowB w b (vs.set o v) e fz := by
  refine world_ext ?_ rfl rfl rfl rfl
  apply Array.ext_getElem?
  grind[heap_putRowB,World.setCell]
theorem putRowB_putRowB {w : World} {b : Nat} {vs us : List Value} {e : TypeId} {fz : Nat × Nat} : putRowB (putRowB w b vs e fz) b us e fz = putRowB w b us e fz := by
  simp [putRowB]
theorem storeCells_runF {P : Program} {b o : Nat} {e : TypeId} {fz : Nat × Nat} (hfz : fz.2 ≤ o) (us : List Value) : ∀ (i : Nat) (w : World) (vs : List Value), (∀ u ∈ us, u.oneCell' = true) →
    w.heap[b]? = some (.cells ⟨vs⟩ e fz) → o + i + us.length ≤ vs.length →
    (storeCells ⟨b, o, none⟩ us i).run P w = .ok () (putRowB w b (setV vs (o + i) us) e fz) := by
  induction us with
  | nil => simp_all[storeCells,setV,putRowB_same]
  | cons u us ih =>
    intro i w vs hu h hle
    simp only [List.length_cons] at hle
    have hc : w.cell? ⟨b, o + i, none⟩ = some vs[o + i] := by rw [cell_of_heap h]; simp
    have hf : w.frozen? ⟨b, o + i, none⟩ = false := by grind[World.frozen?]
    simp only [storeCells, Sem.run_bind, addr_add]
    rw [run_store _ _ _ _ _ (hu u (by simp))]
    simp only [hc, hf, Result.andThen_ok, Bool.false_eq_true, if_false]
    rw [setCell_row h]
    have h' : (putRowB w b (vs.set (o + i) u) e fz).heap[b]? = some (.cells ⟨vs.set (o + i) u⟩ e fz) := by grind[heap_putRowB]
    rw [ih (i + 1) _ (vs.set (o + i) u) (fun x hx => hu x (by grind)) h' (by grind), putRowB_putRowB]
    rfl
theorem storeCells_run {P : Program} {b o : Nat} {e : TypeId} (us : List Value) (i : Nat) (w : World) (vs : List Value) (hu : ∀ u ∈ us, u.oneCell' = true)
    (h : w.heap[b]? = some (.cells ⟨vs⟩ e (0, 0))) (hle : o + i + us.length ≤ vs.length) :
    (storeCells ⟨b, o, none⟩ us i).run P w = .ok () (putRowB w b (setV vs (o + i) us) e) := storeCells_runF (Nat.zero_le o) us i w vs hu h hle
theorem cell?_congr {w w' : World} {b : Nat} (h : w'.heap[b]? = w.heap[b]?) (o : Nat) : w'.cell? ⟨b, o, none⟩ = w.cell? ⟨b, o, none⟩ := by grind[World.cell?]
theorem shape_of_heap {w : World} {b : Nat} {vs : List Value} {e : TypeId} {fz : Nat × Nat} (h : w.heap[b]? = some (.cells ⟨vs⟩ e fz)) : w.shape? b = some (e, vs.length) := by grind[World.shape?]
theorem Inv.putRow {E : Env} {L : Lim} {g : Ghost} {w : World} {s : Sto} (h : Inv E g w s) {id b : Nat} {cs' : List AV} {vs vs' : List Value} {e : TypeId}
    (hb : g.blk id = some b) (hh : w.heap[b]? = some (.cells ⟨vs⟩ e (0, 0))) (hvl : vs'.length = vs.length) (hro : L.ro ≤ id) (hle : cs'.length ≤ vs'.length) (hl : VL g w cs' (vs'.take cs'.length)) :
    Ext L g w g (putRowB w b vs' e) ∧ Inv E g (putRowB w b vs' e) { s with bs := s.bs.set id cs' } := by
  have hlt := h.blkLt hb
  have hne : ∀ k, k ≠ b → (putRowB w b vs' e).heap[k]? = w.heap[k]? := fun k hk => by grind[heap_putRowB]
  have hat : (putRowB w b vs' e).heap[b]? = some (.cells ⟨vs'⟩ e (0, 0)) := by grind[heap_putRowB]
  have hsz : (putRowB w b vs' e).heap.size = w.heap.size := by simp [putRowB]
  have ext : Ext L g w g (putRowB w b vs' e) := {
    os := rfl, tape := rfl, output := rfl, size := by omega
    mono := fun _ _ hi => hi
    cell := fun k o hi => cell?_congr (hne k (fun hk => h.blkI id b o hb (hk ▸ hi))) o
    blk := fun _ _ hi => .inl hi
    dead := fun _ hi => hi
    shape := fun id' b' hb' _ => by
      by_cases hk : b' = b
      · subst hk; rw [shape_of_heap hat, shape_of_heap hh, hvl]
      grind[shape_congr]
    tok := fun _ l hl => ⟨l, hl, .inl rfl⟩
    keepB := fun id' b' hb' hlt' => ⟨hb', hne b' (fun hk => by subst hk; have := h.injB id id' b' hb hb'; omega)⟩
    keepT := fun t l hl _ => ⟨hl, hne _ (fun hk => h.injBT id b t l hb hl hk.symm), fun _ ho => ho⟩
    out := fun k _ h1 _ _ => ⟨hne k (fun hk => h1 id (hk ▸ hb)), fun _ ho => ho⟩
    mp := fun _ _ hb => hb
    keepM := fun _ b' hb' => ⟨fun _ => hne b' (fun hk => h.mpB hb' (hk ▸ hb)), fun _ ho => ho⟩
    newM := fun id' _ hb _ => ⟨id', hb⟩
    newB := fun id' _ hb _ => ⟨id', hb⟩
    pend := fun _ h => h
    newT := fun _ l hl _ => ⟨l, hl, rfl⟩ }
  refine ⟨ext, ?_⟩
  exact {
    blkN := fun id' b' hb' => by simpa using h.blkN id' b' hb'
    deadN := fun id' hd => by simpa using h.deadN id' hd
    deadE := fun id' hd => by
      have hid : id ≠ id' := fun e => by subst e; have := g.hd _ hd; grind
      simp only [List.getElem?_set_ne hid]; exact h.deadE id' hd
    blk := fun id' b' hb' => by
      by_cases hid : id' = id
      · subst hid
        have : b' = b := by grind
        subst this
        exact ⟨cs', vs', e, by simp [h.blkN _ _ hb], hat, hle, hl.mono ext⟩
      · obtain ⟨cs, us, e', h1, h2, h3, h4⟩ := h.blk id' b' hb'
        exact ⟨cs, us, e', by grind, by rw [hne b' (fun hk => hid (h.injB id' id b' hb' (hk ▸ hb)))]; omega, h3, h4.mono ext⟩
    blkI := h.blkI
    tokN := h.tokN
    tokL := h.tokL
    tok := fun t l hl => by
      obtain ⟨us, e', h1, h2⟩ := h.tok t l hl
      grind
    tokI := h.tokI
    injB := h.injB
    injT := h.injT
    injBT := h.injBT
    Ilt := fun k o hi => by rw [hsz]; exact h.Ilt k o hi
    allB := fun id hid => h.allB id (by grind)
    mp := h.mpKeep (fun id' b' hb' => List.getElem?_set_ne (h.mpNe hb hb')) (fun id' b' hb' => hne b' (fun hk => h.mpB hb' (hk ▸ hb)))
    mpX := h.mpX
    injM := h.injM
    pendN := fun id hp => by obtain ⟨a, b, c⟩ := h.pendN id hp; grind
    glob := fun gl row hr j c hj => by
      obtain ⟨v, h1, h2, h3⟩ := h.glob gl row hr j c hj
      exact ⟨v, h1, by rw [ext.cell _ _ h1]; omega, h3.mono ext.mono ext.cell⟩
    globN := fun gl row hr => by
      obtain ⟨h1, h2⟩ := h.globN gl row hr
      exact ⟨h1, by rw [ext.cell _ _ h1]; omega⟩ }
theorem setV_take (us : List Value) : ∀ (vs : List Value) (k n : Nat), (setV vs k us).take n = setV (vs.take n) k us := by
  induction us with
  | nil => intro vs k n; rfl
  | cons u us ih =>
    grind[setV,List.take_set]
theorem storeA_sound {E : Env} {L : Lim} {g : Ghost} {w : World} {s s' : Sto} (hI : Inv E g w s) {t : TypeId} {a x : AV} {av xv : Value}
    (ha : V g w a av) (hx : V g w x xv) (h : storeA E L s t a x = some s') :
    ∃ w', (Instr.storeAt t av xv).run E.P w = .ok () w' ∧ Ext L g w g w' ∧ Inv E g w' s' := by
  unfold storeA at h
  split at h
  · rename_i id off i hi
    split at h
    · rename_i cs hcs
      simp only at h
      split at h
      · rename_i hc
        obtain ⟨h1, h2, h3, h4, _, hi0⟩ := hc
        simp at h; subst h
        simp only [lookB] at hcs
        cases ha with
        | ptrD hd =>
          have := hI.deadE id hd
          grind
        | @ptr _ _ b hb =>
          obtain ⟨cs', vs, e, k1, k2, kle, k3⟩ := hI.blk id b hb
          rw [hcs] at k1; simp at k1; subst k1
          have hv := cellsOf_sound hx h4
          have hone : ∀ u ∈ xv.cells.toList, u.oneCell' = true := by
            intro u hu
            obtain ⟨j, hj, rfl⟩ := List.mem_iff_getElem.1 hu
            have hj' : j < (cellsOf x).length := by rw [hv.len]; omega
            exact okCell_one (hv.at_ j (cellsOf x)[j] _ (by simp [hj']) (by simp)) (by grind)
          have hlen : xv.cells.size = i.size := by rw [← Array.length_toList, ← hv.len]; omega
          refine ⟨_, ?_, (hI.putRow (vs' := setV vs off xv.cells.toList) (cs' := setCells cs off (cellsOf x)) hb k2 (setV_length _ _ _) h3 (by grind[setCells_length,setV_length]) (by grind[setCells_length,setV_take,VL.setCells]))⟩
          simp only [Instr.storeAt, Instr.sureAddr, storeVar, Sem.run_bind, Sem.run_pure, Result.andThen_ok, run_sizeOf hi, hlen, ne_eq, not_true_eq_false, if_false]
          have := storeCells_run (P := E.P) (b := b) (o := off) (e := e) xv.cells.toList 0 w vs hone k2 (by grind)
          omega
      grind
    grind
  grind
theorem VL.full {g : Ghost} {w : World} {cs : List AV} {vs : List Value} (h : VL g w cs vs) : cs.length ≤ vs.length ∧ VL g w cs (vs.take cs.length) :=
  ⟨by rw [h.len]; simp, by rw [h.len, List.take_length]; exact h⟩
def pushW (w : World) (vs : List Value) (e : TypeId) : World := { w with heap := w.heap.push (.cells ⟨vs⟩ e (0, 0)) }
theorem heap_pushW (w : World) (vs : List Value) (e : TypeId) (k : Nat) :
    (pushW w vs e).heap[k]? = if k = w.heap.size then some (.cells ⟨vs⟩ e (0, 0)) else w.heap[k]? := by grind[pushW]
theorem heap_pushW_lt {w : World} {vs : List Value} {e : TypeId} {k : Nat} (h : k < w.heap.size) : (pushW w vs e).heap[k]? = w.heap[k]? := by grind[heap_pushW]
def Ghost.addB (g : Ghost) (id b : Nat) (h : ¬ g.dead id) : Ghost := { g with blk := fun i => if i = id then some b else g.blk i, hd := fun i hi => (if_neg (fun e : i = id => h (e ▸ hi))).trans (g.hd i hi) }
def Ghost.addI (g : Ghost) (J : Nat → Nat → Prop) : Ghost := { g with I := fun b o => g.I b o ∨ J b o }
theorem Inv.fresh {E : Env} {g : Ghost} {w : World} {s : Sto} (h : Inv E g w s) : ¬ g.dead s.bs.length := fun hd => by have := h.deadN _ hd; omega
theorem Inv.mark0 {E : Env} {g : Ghost} {w : World} {s : Sto} {r : List AV} {t : TypeId} {b : Nat} (h : Inv E g w { s with bs := s.bs ++ [.pv (.sc (.pointer none)) :: r] }) (hb : g.blk s.bs.length = some b)
    (hs : w.shape? b = some (t, r.length + 1)) : Inv E g w { s with bs := s.bs ++ [.bz s.bs.length t (r.length + 1) :: r] } := by
  have hne : ∀ (i : Nat) (a c : List AV), i ≠ s.bs.length → (s.bs ++ [a])[i]? = (s.bs ++ [c])[i]? := fun i a c hi => by grind
  exact {
    blkN := fun id b' hb' => by have := h.blkN id b' hb'; grind
    deadN := fun id hd => by have := h.deadN id hd; grind
    blk := fun id b' hb' => by
      obtain ⟨cs, vs, e, h1, h2, h3, h4⟩ := h.blk id b' hb'
      by_cases hid : id = s.bs.length
      · subst hid
        have : b' = b := by grind
        subst this
        simp at h1
        subst h1
        refine ⟨.bz s.bs.length t (r.length + 1) :: r, vs, e, by simp, h2, by omega, ?_⟩
        cases vs with
        | nil => grind
        | cons u us =>
          simp only [List.length_cons, List.take_succ_cons] at h4 ⊢
          have := h4.head.scv_inv
          subst this
          exact .cons (.bz hb hs) h4.tail
      grind
    blkI := h.blkI
    deadE := fun id hd => by
      have hid : id ≠ s.bs.length := fun e => by have := g.hd id hd; grind
      exact (hne id _ _ hid).trans (h.deadE id hd)
    pendN := fun id hp => by obtain ⟨a, c⟩ := h.pendN id hp; grind
    allB := fun id hid => h.allB id (by grind)
    mp := h.mpKeep (fun id b' hb' => hne id _ _ fun e => by have := (h.mpX id b' hb').1; grind) (fun _ _ _ => rfl)
    mpX := h.mpX
    injM := h.injM
    tokN := h.tokN, tokL := h.tokL, tok := h.tok, tokI := h.tokI, injB := h.injB, injT := h.injT, injBT := h.injBT, Ilt := h.Ilt
    glob := h.glob
    globN := h.globN }
theorem Inv.markZ {E : Env} {g : Ghost} {w : World} {s : Sto} {z : List AV} {t : TypeId} {b : Nat} (h : Inv E g w { s with bs := s.bs ++ [z] }) (hb : g.blk s.bs.length = some b) (hs : w.shape? b = some (t, z.length)) :
    Inv E g w { s with bs := s.bs ++ [Tel.markZ E s.bs.length t z] } := by
  unfold Tel.markZ
  cases E.bz t with
  | false => exact h
  | true =>
    simp only [cond_true]
    split
    · exact h.mark0 hb (by omega)
    omega
theorem Inv.pushB {E : Env} {L : Lim} {g : Ghost} {w : World} {s : Sto} (h : Inv E g w s) {cs : List AV} {vs : List Value} (e : TypeId) (hle : cs.length ≤ vs.length) (hl : VL g w cs (vs.take cs.length)) :
    Ext L g w (g.addB s.bs.length w.heap.size h.fresh) (pushW w vs e) ∧ Inv E (g.addB s.bs.length w.heap.size h.fresh) (pushW w vs e) { s with bs := s.bs ++ [cs] } := by
  have hsz : (pushW w vs e).heap.size = w.heap.size + 1 := by simp [pushW]
  have hne : ∀ id b, g.blk id = some b → id ≠ s.bs.length := fun id b hb => Nat.ne_of_lt (h.blkN id b hb)
  have hbk : ∀ id b, g.blk id = some b → (g.addB s.bs.length w.heap.size h.fresh).blk id = some b := fun id b hb => by grind[Ghost.addB]
  have inv : ∀ id b, (g.addB s.bs.length w.heap.size h.fresh).blk id = some b → (id = s.bs.length ∧ b = w.heap.size) ∨ g.blk id = some b := fun id b hb => by grind[Ghost.addB]
  have ext : Ext L g w (g.addB s.bs.length w.heap.size h.fresh) (pushW w vs e) := {
    os := rfl, tape := rfl, output := rfl, size := by omega
    mono := fun _ _ hi => hi
    cell := fun k o hi => cell?_congr (heap_pushW_lt (h.Ilt k o hi)) o
    blk := fun id b hb => .inl (hbk id b hb)
    dead := fun _ hd => hd
    shape := fun id b hb _ => shape_congr (heap_pushW_lt (h.blkLt hb))
    tok := fun _ l hl => ⟨l, hl, .inl rfl⟩
    keepB := fun id b hb _ => ⟨hbk id b hb, heap_pushW_lt (h.blkLt hb)⟩
    keepT := fun t l hl _ => ⟨hl, heap_pushW_lt (h.tokLt hl), fun _ ho => ho⟩
    out := fun k hk _ _ _ => ⟨heap_pushW_lt hk, fun _ ho => ho⟩
    mp := fun _ _ hb => hb
    keepM := fun _ b' hb' => ⟨fun _ => heap_pushW_lt (h.mpLt hb'), fun _ ho => ho⟩
    newM := fun id' _ hb _ => ⟨id', hb⟩
    newB := fun id b hb hlt => by grind
    pend := fun _ h => h
    newT := fun _ l hl _ => ⟨l, hl, rfl⟩ }
  refine ⟨ext, ?_⟩
  exact {
    blkN := fun id b hb => by
      rcases inv id b hb with ⟨rfl, _⟩ | hb
      · simp
      · have := h.blkN id b hb; grind
    deadN := fun id hd => by have := h.deadN id hd; grind
    deadE := fun id hd => by rw [List.getElem?_append_left (h.deadN id hd)]; exact h.deadE id hd
    blk := fun id b hb => by
      rcases inv id b hb with ⟨rfl, rfl⟩ | hb
      · exact ⟨cs, vs, e, by simp, by grind[heap_pushW], hle, hl.mono ext⟩
      · obtain ⟨cs', us, e', h1, h2, h3, h4⟩ := h.blk id b hb
        exact ⟨cs', us, e', by grind, by grind[heap_pushW_lt], h3, h4.mono ext⟩
    blkI := fun id b o hb hi => by
      rcases inv id b hb with ⟨_, rfl⟩ | hb
      · have := h.Ilt _ o hi; omega
      · exact h.blkI id b o hb hi
    tokN := h.tokN
    tokL := h.tokL
    tok := fun t l hl => by
      obtain ⟨us, e', h1, h2⟩ := h.tok t l hl
      grind[heap_pushW_lt]
    tokI := h.tokI
    injB := fun id id' b hb hb' => by
      rcases inv id b hb with ⟨e1, rfl⟩ | hb
      · rcases inv id' _ hb' with ⟨e2, _⟩ | hb'
        · rw [e1, e2]
        · have := h.blkLt hb'; omega
      · rcases inv id' b hb' with ⟨_, rfl⟩ | hb'
        · have := h.blkLt hb; omega
        · exact h.injB id id' b hb hb'
    injT := h.injT
    injBT := fun id b t l hb hl => by
      rcases inv id b hb with ⟨_, rfl⟩ | hb
      · have := h.tokLt hl; omega
      · exact h.injBT id b t l hb hl
    Ilt := fun k o hi => by rw [hsz]; have := h.Ilt k o hi; omega
    allB := fun id hid => by
      by_cases e : id = s.bs.length
      · exact .inl ⟨_, if_pos e⟩
      · rcases h.allB id (by grind) with ⟨b, hb⟩ | q
        · grind
        · exact .inr q
    mp := h.mpKeep (fun id' b' hb' => List.getElem?_append_left (h.mpN hb')) (fun id' b' hb' => heap_pushW_lt (h.mpLt hb'))
    mpX := fun id b hb => by
      obtain ⟨a1, a2, a3⟩ := h.mpX id b hb
      exact ⟨(if_neg (Nat.ne_of_lt (h.mpN hb))).trans a1, a2, a3⟩
    injM := h.injM
    pendN := fun id hp => by
      obtain ⟨a, b, c⟩ := h.pendN id hp
      exact ⟨by grind, (if_neg (by omega)).trans b, c⟩
    glob := fun gl row hr j c hj => by
      obtain ⟨v, h1, h2, h3⟩ := h.glob gl row hr j c hj
      exact ⟨v, h1, by rw [ext.cell _ _ h1]; omega, h3.mono ext.mono ext.cell⟩
    globN := fun gl row hr => by
      obtain ⟨h1, h2⟩ := h.globN gl row hr
      exact ⟨h1, by rw [ext.cell _ _ h1]; omega⟩ }
def objW (w : World) (o : Obj) : World := { w with heap := w.heap.push o }
theorem heap_objW (w : World) (o : Obj) (k : Nat) : (objW w o).heap[k]? = if k = w.heap.size then some o else w.heap[k]? := by grind[objW]
theorem heap_objW_lt {w : World} {o : Obj} {k : Nat} (h : k < w.heap.size) : (objW w o).heap[k]? = w.heap[k]? := by grind[heap_objW]
theorem Inv.pushO {E : Env} {L : Lim} {g : Ghost} {w : World} {s : Sto} (h : Inv E g w s) (o : Obj) :
    Ext L g w (g.addI fun b _ => b = w.heap.size) (objW w o) ∧ Inv E (g.addI fun b _ => b = w.heap.size) (objW w o) s := by
  have hsz : (objW w o).heap.size = w.heap.size + 1 := by simp [objW]
  have ext : Ext L g w (g.addI fun b _ => b = w.heap.size) (objW w o) := {
    os := rfl, tape := rfl, output := rfl, size := by omega
    mono := fun _ _ hi => .inl hi
    cell := fun k o hi => cell?_congr (heap_objW_lt (h.Ilt k o hi)) o
    blk := fun _ _ hb => .inl hb
    dead := fun _ hd => hd
    shape := fun id b hb _ => shape_congr (heap_objW_lt (h.blkLt hb))
    tok := fun _ l hl => ⟨l, hl, .inl rfl⟩
    keepB := fun id b hb _ => ⟨hb, heap_objW_lt (h.blkLt hb)⟩
    keepT := fun t l hl _ => ⟨hl, heap_objW_lt (h.tokLt hl), fun o ho => ho.resolve_right (fun e => by have := h.tokLt hl; omega)⟩
    out := fun k hk _ _ _ => ⟨heap_objW_lt hk, fun o ho => ho.resolve_right (fun e => by omega)⟩
    mp := fun _ _ hb => hb
    keepM := fun _ b' hb' => ⟨fun _ => heap_objW_lt (h.mpLt hb'), fun o ho => ho.resolve_right (fun e => by have := h.mpLt hb'; omega)⟩
    newM := fun id' _ hb _ => ⟨id', hb⟩
    newB := fun id _ hb _ => ⟨id, hb⟩
    pend := fun _ h => h
    newT := fun _ l hl _ => ⟨l, hl, rfl⟩ }
  refine ⟨ext, ?_⟩
  exact {
    blkN := h.blkN
    deadN := h.deadN
    deadE := h.deadE
    blk := fun id b hb => by
      obtain ⟨cs', us, e', h1, h2, h3, h4⟩ := h.blk id b hb
      exact ⟨cs', us, e', h1, by grind[heap_objW_lt], h3, h4.mono ext⟩
    blkI := fun id b o hb hi => by
      rcases hi with hi | hi
      · exact h.blkI id b o hb hi
      · have := h.blkLt hb; omega
    tokN := h.tokN
    tokL := h.tokL
    tok := fun t l hl => by
      obtain ⟨us, e', h1, h2⟩ := h.tok t l hl
      grind[heap_objW_lt]
    tokI := fun t l o hl hle hi => by
      rcases hi with hi | hi
      · exact h.tokI t l o hl hle hi
      · have := h.tokLt hl; omega
    injB := h.injB
    injT := h.injT
    injBT := h.injBT
    Ilt := fun k o hi => by
      rw [hsz]
      rcases hi with hi | hi
      · have := h.Ilt k o hi; omega
      omega
    allB := h.allB
    mp := h.mpKeep (fun _ _ _ => rfl) (fun _ _ hb' => heap_objW_lt (h.mpLt hb'))
    mpX := h.mpX
    injM := h.injM
    pendN := h.pendN
    glob := fun gl row hr j c hj => by
      obtain ⟨v, h1, h2, h3⟩ := h.glob gl row hr j c hj
      exact ⟨v, .inl h1, by rw [ext.cell _ _ h1]; omega, h3.mono ext.mono ext.cell⟩
    globN := fun gl row hr => by
      obtain ⟨h1, h2⟩ := h.globN gl row hr
      exact ⟨.inl h1, by rw [ext.cell _ _ h1]; omega⟩ }
theorem Inv.pushI {E : Env} {L : Lim} {g : Ghost} {w : World} {s : Sto} (h : Inv E g w s) (vs : List Value) (e : TypeId) :
    Ext L g w (g.addI fun b _ => b = w.heap.size) (pushW w vs e) ∧ Inv E (g.addI fun b _ => b = w.heap.size) (pushW w vs e) s := h.pushO _
end Go.Tel
/-
  Single operations, part 3: structs, slices of rows, append.
-/
namespace Go.Tel
theorem fold_set (us : List Value) : ∀ (vs : List Value) (off j : Nat),
    ((us.toArray.zipIdx j).foldl (fun (cs : Array Value) (p : Value × Nat) => cs.setIfInBounds (off + p.2) p.1) ⟨vs⟩) = ⟨setV vs (off + j) us⟩ := by
  induction us with
  | nil => grind[setV]
  | cons u us ih =>
    intro vs off j
    have := ih (vs.set (off + j) u) off (j + 1)
    grind[List.zipIdx_cons,setV]
theorem fill_sound {g : Ghost} {w : World} {place : Nat → Option (Nat × Nat)} (parts : List (Nat × AV)) : ∀ {ps : List (Nat × Value)} {cs cs' : List AV} {vs : List Value},
    parts.map (·.1) = ps.map (·.1) → (∀ (i : Nat) (p : Nat × AV) (q : Nat × Value), parts[i]? = some p → ps[i]? = some q → V g w p.2 q.2) → VL g w cs vs →
    fillA place cs parts = some cs' → ∃ vs', Instr.fill place ⟨vs⟩ ps = some ⟨vs'⟩ ∧ VL g w cs' vs' := by
  induction parts with
  | nil =>
    intro ps cs cs' vs hk _ hl h
    have : ps = [] := by simp_all
    subst this
    simp [fillA] at h; subst h
    exact ⟨vs, rfl, hl⟩
  | cons p parts ih =>
    intro ps cs cs' vs hk hv hl h
    cases ps with
    | nil => grind
    | cons q ps =>
      obtain ⟨i, x⟩ := p
      obtain ⟨i', y⟩ := q
      simp at hk
      obtain ⟨rfl, hk⟩ := hk
      simp only [fillA] at h
      simp only [Instr.fill]
      cases hp : place i with
      | none => grind
      | some os =>
        obtain ⟨off, size⟩ := os
        simp only [hp] at h
        split at h
        · rename_i hn
          obtain ⟨h1, h2, hok⟩ := hn
          have hxy : V g w x y := hv 0 (i, x) (i, y) rfl rfl
          have hc := cellsOf_sound hxy hok
          have hlen : y.cells.size = (cellsOf x).length := by rw [hc.len]; simp
          have hvl := hl.len
          have hif : (decide (y.cells.size ≠ size) || decide (off + y.cells.size > (⟨vs⟩ : Array Value).size)) = false := by grind
          simp only [hif, Bool.false_eq_true, if_false]
          have e := fold_set y.cells.toList vs off 0
          simp only [Array.toArray_toList, Nat.add_zero] at e
          rw [e]
          exact ih hk (fun j p q hp hq => hv (j + 1) p q (by grind) (by grind)) (VL.setCells off hl hc) h
        grind
theorem zeroOf_sound {P : Program} {g : Ghost} {w : World} {t : TypeId} {z : List AV} (h : zeroOf P t = some z) :
    ∃ i v, P.info? t = some i ∧ i.zero = some v ∧ (zeroValue t).run P w = .ok v w ∧ VL g w z v.cells.toList := by
  unfold zeroOf at h
  split at h
  · rename_i i hi
    split at h
    · rename_i v hv
      simp at h; subst h
      refine ⟨i, v, hi, hv, by simp[*,zeroValue,run_typeInfo], ?_⟩
      cases v with
      | agg cs => exact VL.map V.ofCell cs.toList
      | tuple vs => exact .cons (V.tuple' (VL.scvs vs.toList)) .nil
      | slice a n c =>
        have : cellsOf (ofConst (.slice a n c)) = [ofCell (.slice a n c)] := by
          simp only [ofConst, ofCell]
          split <;> rfl
        rw [this]
        exact .cons (V.ofCell _) .nil
      | _ => exact .cons (V.scv _) .nil
    grind
  grind
theorem map_parts {g : Ghost} {w : World} {ρ : Nat → AV} {a : Act} (hρ : ∀ t, V g w (ρ t) (a.tmps.getD t undef)) (parts : Array (Nat × Operand)) :
    (parts.toList.map fun p => (p.1, evalO ρ p.2)).map (·.1) = ((parts.map fun (i, x) => (i, a.eval x)).toList).map (·.1) ∧
    ∀ (i : Nat) p q, (parts.toList.map fun p => (p.1, evalO ρ p.2))[i]? = some p → ((parts.map fun (i, x) => (i, a.eval x)).toList)[i]? = some q → V g w p.2 q.2 := by
  constructor
  · simp
  grind[evalO_sound]
end Go.Tel
/-
  Single operations, part 4: rows laid flat; slices of rows; append.
-/
namespace Go.Tel
structure Flat (I : Nat → Nat → Prop) (w : World) (rows : List (List PV)) (sz : Nat) (us : List Value) : Prop where
  len : us.length = rows.length * sz
  hsz : ∀ row ∈ rows, row.length = sz
  at_ : ∀ i row j c, rows[i]? = some row → row[j]? = some c → ∃ u, us[i * sz + j]? = some u ∧ VP I w c u
theorem Flat.mono {I I' : Nat → Nat → Prop} {w w' : World} (hI : ∀ b o, I b o → I' b o) (hw : ∀ b o, I b o → w'.cell? ⟨b, o, none⟩ = w.cell? ⟨b, o, none⟩)
    {rows : List (List PV)} {sz : Nat} {us : List Value} (h : Flat I w rows sz us) : Flat I' w' rows sz us :=
  ⟨h.len, h.hsz, fun i row j c hr hc => by obtain ⟨u, h1, h2⟩ := h.at_ i row j c hr hc; exact ⟨u, h1, h2.mono hI hw⟩⟩
theorem Flat.append {I : Nat → Nat → Prop} {w : World} {rows rows' : List (List PV)} {sz : Nat} {us us' : List Value} (h : Flat I w rows sz us) (k : Flat I w rows' sz us') :
    Flat I w (rows ++ rows') sz (us ++ us') := by
  refine ⟨by simp [h.len, k.len, Nat.add_mul], fun row hr => ?_, fun i row j c hr hc => ?_⟩
  · rcases List.mem_append.1 hr with hr | hr
    · exact h.hsz row hr
    · exact k.hsz row hr
  · rcases Nat.lt_or_ge i rows.length with hi | hi
    · rw [List.getElem?_append_left hi] at hr
      obtain ⟨u, h1, h2⟩ := h.at_ i row j c hr hc
      grind
    · rw [List.getElem?_append_right hi] at hr
      obtain ⟨u, h1, h2⟩ := k.at_ _ row j c hr hc
      refine ⟨u, ?_, h2⟩
      have e : i * sz = us.length + (i - rows.length) * sz := by
        rw [h.len, ← Nat.add_mul]; grind
      grind
theorem Flat.rowsAt {I : Nat → Nat → Prop} {w : World} {rows : List (List PV)} {sz : Nat} {us : List Value} (h : Flat I w rows sz us) {b o : Nat}
    (hi : ∀ q, q < us.length → I b (o + q)) (hc : ∀ q u, us[q]? = some u → w.cell? ⟨b, o + q, none⟩ = some u) :
    RowsAt I w rows (some ⟨b, o, none⟩) b o sz (fun i j => (us[i * sz + j]?).getD undef) := by
  refine ⟨h.hsz, fun _ _ => rfl, fun i row j c hr hj => ?_, fun i row j c hr hj => ?_⟩
  · obtain ⟨u, h1, _⟩ := h.at_ i row j c hr hj
    grind
  · obtain ⟨u, h1, h2⟩ := h.at_ i row j c hr hj
    grind
theorem div_mod_of {i sz j : Nat} (h : j < sz) : (i * sz + j) / sz = i ∧ (i * sz + j) % sz = j := by grind[Nat.mul_comm,Nat.mul_add_div,Nat.div_eq_of_lt,Nat.mul_add_mod,Nat.mod_eq_of_lt]
theorem RowsAt.flat {I : Nat → Nat → Prop} {w : World} {rows : List (List PV)} {base : Option Addr} {b o sz : Nat} {f : Nat → Nat → Value} (h : RowsAt I w rows base b o sz f) (hs : sz ≠ 0) :
    ∃ us, Flat I w rows sz us ∧ ∀ q u, us[q]? = some u → I b (o + q) ∧ w.cell? ⟨b, o + q, none⟩ = some u := by
  refine ⟨(List.range (rows.length * sz)).map (fun q => f (q / sz) (q % sz)), ⟨by simp, h.hsz, fun i row j c hr hj => ?_⟩, fun q u hq => ?_⟩
  · have hi := lt_of_getElem?L hr
    have hj' : j < sz := by rw [← h.hsz row (List.mem_of_getElem? hr)]; grind
    have hlt : i * sz + j < rows.length * sz := by
      have : (i + 1) * sz ≤ rows.length * sz := Nat.mul_le_mul_right _ hi
      grind
    refine ⟨f i j, ?_, h.hv i row j c hr hj⟩
    obtain ⟨d1, d2⟩ := div_mod_of (i := i) hj'
    simp [List.getElem?_map, List.getElem?_range hlt, d1, d2]
  · have hlt : q < rows.length * sz := by have := lt_of_getElem?L hq; simpa using this
    simp [List.getElem?_map, List.getElem?_range hlt] at hq
    subst hq
    have hi : q / sz < rows.length := Nat.div_lt_of_lt_mul (by grind)
    have hm : q % sz < sz := Nat.mod_lt _ (by omega)
    have hr : rows[q / sz]? = some rows[q / sz] := by simp [hi]
    have hl : rows[q / sz].length = sz := h.hsz _ (by simp)
    have hc := h.hc (q / sz) rows[q / sz] (q % sz) (rows[q / sz][q % sz]'(by omega)) hr (by simp [hl, hm])
    grind[Nat.div_add_mod]
theorem rowsOf_sound {g : Ghost} {w : World} {x : AV} {rows : List (List PV)} {v : Value} (h : V g w x v) (hr : rowsOf x = some rows) :
    ∃ base cap b o sz f, v = .slice base rows.length cap ∧ rows.length ≤ cap ∧ RowsAt g.I w rows base b o sz f := by
  unfold rowsOf at hr
  split at hr
  · simp at hr; subst hr
    cases h with | pv h => exact h.rows
  · simp at hr; subst hr
    cases h with | capped h => grind
  · simp at hr; subst hr
    cases h with | own h hcap => grind
  grind
theorem toPV_sound {g : Ghost} {w : World} {x : AV} {p : PV} {v : Value} (h : V g w x v) (hp : toPV x = some p) : VP g.I w p v := by
  unfold toPV at hp
  split at hp
  · simp at hp; subst hp; cases h with | pv h => exact h
  · simp at hp; subst hp; cases h with | capped h => grind[VP.of_rows]
  · simp at hp; subst hp; cases h with | own h hcap => grind[VP.of_rows]
  grind
theorem toPVs_sound {g : Ghost} {w : World} {cs : List AV} : ∀ {ps : List PV} {vs : List Value}, VL g w cs vs → toPVs cs = some ps →
    ps.length = vs.length ∧ ∀ (j : Nat) p, ps[j]? = some p → ∃ u, vs[j]? = some u ∧ VP g.I w p u := by
  induction cs with
  | nil => intro ps vs h hp; simp [toPVs] at hp; subst hp; rw [h.nil_inv]; simp
  | cons c cs ih =>
    intro ps vs h hp
    obtain ⟨u, us, rfl, h1, h2⟩ := h.cases
    simp only [toPVs] at hp
    split at hp
    · rename_i p qs hc hcs
      simp at hp; subst hp
      obtain ⟨k1, k2⟩ := ih h2 hcs
      refine ⟨by grind, fun j p' hj => ?_⟩
      cases j with
      | zero => simp at hj; subst hj; exact ⟨u, rfl, toPV_sound h1 hc⟩
      | succ j => grind
    grind
theorem rowsBy_length (k : Nat) : ∀ (n : Nat) (ps : List PV), (rowsBy k n ps).length = n := by
  intro n
  induction n with
  | zero => intro ps; rfl
  | succ n ih => grind[rowsBy]
theorem rowsBy_get (k : Nat) : ∀ (n : Nat) (ps : List PV) (i : Nat) (row : List PV), (rowsBy k n ps)[i]? = some row → row = (ps.drop (i * k)).take k := by
  intro n
  induction n with
  | zero => grind[rowsBy]
  | succ n ih =>
    intro ps i row h
    cases i with
    | zero => grind[rowsBy]
    | succ i =>
      grind[rowsBy,List.drop_drop]
theorem flat_of_pvs {I : Nat → Nat → Prop} {w : World} {k n : Nat} {ps : List PV} {us : List Value} (hn : us.length = n * k) (hl : ps.length = us.length)
    (h : ∀ (j : Nat) p, ps[j]? = some p → ∃ u, us[j]? = some u ∧ VP I w p u) : Flat I w (rowsBy k n ps) k us := by
  refine ⟨by rw [rowsBy_length, hn], fun row hr => ?_, fun i row j c hr hj => ?_⟩
  · obtain ⟨i, hi, rfl⟩ := List.mem_iff_getElem.1 hr
    rw [rowsBy_length] at hi
    have := rowsBy_get k n ps i _ (List.getElem?_eq_getElem (by omega))
    rw [this]
    have : (i + 1) * k ≤ n * k := Nat.mul_le_mul_right _ hi
    grind
  · have := rowsBy_get k n ps i row hr
    grind
theorem repl_length {α : Type} (l : List α) : ∀ n, (repl n l).length = n * l.length := by
  intro n
  induction n with
  | zero => simp [repl]
  | succ n ih => grind[repl]
theorem VL.repl {g : Ghost} {w : World} {cs : List AV} {vs : List Value} (h : VL g w cs vs) : ∀ n, VL g w (Tel.repl n cs) (Tel.repl n vs) := by
  intro n
  induction n with
  | zero => exact .nil
  | succ n ih => exact h.append ih
theorem range_repl (z : List Value) (hz : z ≠ []) (d : Value) : ∀ n, (List.range (n * z.length)).map (fun i => (z[i % z.length]?).getD d) = repl n z := by
  have hp : 0 < z.length := List.length_pos_iff.2 hz
  intro n
  induction n with
  | zero => simp [repl]
  | succ n ih =>
    have e : (n + 1) * z.length = z.length + n * z.length := by grind
    rw [e, List.range_add, List.map_append]
    simp only [List.map_map, repl]
    congr 1
    · apply List.ext_getElem?
      grind[Nat.mod_eq_of_lt]
    simp[*,List.map_congr_left]
theorem zero_cells (z : Array Value) (n : Nat) (hz : z.size ≠ 0) : (Array.range (n * z.size)).map (z[· % z.size]!) = ⟨repl n z.toList⟩ := by
  apply Array.ext'
  have hne : z.toList ≠ [] := by simp_all
  have := range_repl z.toList hne default n
  grind[Array.toList_map,List.map_congr_left]
end Go.Tel
