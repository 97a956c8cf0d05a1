/-
  A range over a function: blocks that are none of the evaluator's, marks, and what the iterator of slices.Backward promises.
-/
import Derived.Test.YtcmeadgdojfhnaaGreatDoorEvH
import Derived.RangeFuncSeq
set_option linter.unusedSimpArgs false
set_option linter.unusedVariables false
namespace Go.Tel
structure Outs (g : Ghost) (b : Nat) : Prop where
  blk : ∀ id, g.blk id ≠ some b
  tok : ∀ t l, g.tok t = some l → l.b ≠ b
  mp : ∀ id, g.mp id ≠ some b
  I : ∀ o, ¬ g.I b o
theorem Outs.ext {L : Lim} {g g' : Ghost} {w w' : World} {b : Nat} (h : Outs g b) (e : Ext L g w g' w') (hb : b < w.heap.size) : Outs g' b ∧ w'.heap[b]? = w.heap[b]? := by
  obtain ⟨h1, h2⟩ := e.out b hb h.blk h.tok h.mp
  exact ⟨⟨fun id q => by obtain ⟨id0, q0⟩ := e.newB id b q hb; exact h.blk id0 q0,
    fun t l q hq => by obtain ⟨l0, q0, q1⟩ := e.newT t l q (hq ▸ hb); exact h.tok t l0 q0 (q1.trans hq),
    fun id q => by obtain ⟨id0, q0⟩ := e.newM id b q hb; exact h.mp id0 q0,
    fun o ho => h.I o (h2 o ho)⟩, h1⟩
def markD (D : Nat) : Deferred := { target := .collected D, args := #[] }
def Marks (n : Nat) (ds : List Deferred) (g' : Ghost) (w' : World) (ds' : List Deferred) : Prop :=
  ∃ Ds : List Nat, ds' = Ds.map markD ++ ds ∧ Ds.Nodup ∧ ∀ D ∈ Ds, n ≤ D ∧ w'.heap[D]? = some (.deferred (some [])) ∧ Outs g' D
theorem Marks.refl (n : Nat) (ds : List Deferred) (g : Ghost) (w : World) : Marks n ds g w ds := ⟨[], rfl, .nil, fun _ h => by cases h⟩
theorem Marks.trans {L : Lim} {n m : Nat} {ds ds1 ds2 : List Deferred} {g g' : Ghost} {w w' : World} (h : Marks n ds g w ds1) (e : Ext L g w g' w') (hm : m = w.heap.size) (hn : n ≤ m) (k : Marks m ds1 g' w' ds2) : Marks n ds g' w' ds2 := by
  subst hm
  obtain ⟨Ds, h1, h2, h3⟩ := h
  obtain ⟨Es, k1, k2, k3⟩ := k
  refine ⟨Es ++ Ds, by grind, ?_, fun D hD => ?_⟩
  · grind
  · rcases List.mem_append.1 hD with hD | hD
    · grind
    · obtain ⟨a, b, c⟩ := h3 D hD
      obtain ⟨d1, d2⟩ := c.ext e (lt_of_heap b)
      grind
theorem putObj_other {w : World} {b k : Nat} (o : Obj) (h : k ≠ b) : (w.putObj b o).heap[k]? = w.heap[k]? := World.putObj_heap_other h
theorem VP.put {g : Ghost} {w : World} {b : Nat} (h : Outs g b) (o : Obj) {p : PV} {v : Value} (hv : VP g.I w p v) : VP g.I (w.putObj b o) p v :=
  hv.mono (fun _ _ h => h) fun k i hi => cell?_congr (putObj_other o fun (e : k = b) => h.I i (e ▸ hi)) i
theorem V.put {g : Ghost} {w : World} {b : Nat} (h : Outs g b) (o : Obj) {x : AV} {v : Value} (hv : V g w x v) : V g (w.putObj b o) x v := by
  have hc : ∀ k i, g.I k i → (w.putObj b o).cell? ⟨k, i, none⟩ = w.cell? ⟨k, i, none⟩ := fun k i hi => cell?_congr (putObj_other o fun (e : k = b) => h.I i (e ▸ hi)) i
  have hs : ∀ id k, g.blk id = some k → (w.putObj b o).shape? k = w.shape? k := fun id k hk => shape_congr (putObj_other o fun (e : k = b) => h.blk id (e ▸ hk))
  induction hv with
  | pv hv => exact .pv (hv.put h o)
  | ptr h => exact .ptr h
  | ptrD h => exact .ptrD h
  | gptr gl off => grind[gptr]
  | eptr off f hf => exact .eptr off f fun j c hj => ⟨(hf j c hj).1, by grind, (hf j c hj).2.2.put h o⟩
  | capped hr => exact .capped (hr.mono (fun _ _ h => h) hc)
  | own hr hcap ht hn hf => exact .own (hr.mono (fun _ _ h => h) hc) hcap ht hn hf
  | ref hb hcap hsh hn => grind[ref]
  | refD h => exact .refD h
  | junk => exact .junk
  | mref h => exact .mref h
  | bz hb hsh => grind[bz]
  | bzD h => exact .bzD h
  | func hl hm _ _ ih ik => grind[func]
  | iface _ ih => exact .iface ih
  | agg hl _ ih => grind[agg]
  | tuple hl _ ih => grind[tuple]
theorem Inv.putN {E : Env} {g : Ghost} {w : World} {s : Sto} {b : Nat} (h : Inv E g w s) (hb : Outs g b) (o : Obj) : Inv E g (w.putObj b o) s :=
  { h with
    blk := fun id k hk => by
      obtain ⟨cs, us, e, h1, h2, h3, h4⟩ := h.blk id k hk
      exact ⟨cs, us, e, h1, (putObj_other o fun (q : k = b) => hb.blk id (q ▸ hk)).trans h2, h3, ⟨h4.len, fun i c v hc hv => (h4.at_ i c v hc hv).put hb o⟩⟩
    tok := fun t l hl => by
      obtain ⟨us, e, h1, h2⟩ := h.tok t l hl
      exact ⟨us, e, (putObj_other o fun q => hb.tok t l hl q).trans h1, h2⟩
    Ilt := fun k i hi => by rw [World.putObj_size]; exact h.Ilt k i hi
    mp := h.mpKeep (fun _ _ _ => rfl) (fun id k hk => putObj_other o fun (q : k = b) => hb.mp id (q ▸ hk))
    glob := fun gl row hr j c hj => by
      obtain ⟨v, h1, h2, h3⟩ := h.glob gl row hr j c hj
      exact ⟨v, h1, (cell?_congr (putObj_other o fun (q : gl = b) => hb.I j (q ▸ h1)) j).trans h2, h3.put hb o⟩
    globN := fun gl row hr => by
      obtain ⟨h1, h2⟩ := h.globN gl row hr
      exact ⟨h1, (cell?_congr (putObj_other o fun (q : gl = b) => hb.I row.length (q ▸ h1)) row.length).trans h2⟩ }
theorem Ext.putN {L : Lim} {g g' : Ghost} {w w' : World} {b : Nat} (h : Ext L g w g' w') (hb : w.heap.size ≤ b) (ho : Outs g' b) (hblk : ∀ id k, g.blk id = some k → k < w.heap.size) (htok : ∀ t l, g.tok t = some l → l.b < w.heap.size)
    (hmp : ∀ id k, g.mp id = some k → k < w.heap.size) (o : Obj) : Ext L g w g' (w'.putObj b o) :=
  { h with
    size := by rw [World.putObj_size]; exact h.size
    cell := fun k i hi => (cell?_congr (putObj_other o fun (e : k = b) => ho.I i (e ▸ h.mono k i hi)) i).trans (h.cell k i hi)
    shape := fun id k hk hk' => (shape_congr (putObj_other o fun e => by grind)).trans (h.shape id k hk hk')
    keepB := fun id k hk hlt => ⟨(h.keepB id k hk hlt).1, (putObj_other o fun e => by grind).trans (h.keepB id k hk hlt).2⟩
    keepT := fun t l hl hlt => ⟨(h.keepT t l hl hlt).1, (putObj_other o fun e => by grind).trans (h.keepT t l hl hlt).2.1, (h.keepT t l hl hlt).2.2⟩
    out := fun k hk h1 h2 h3 => ⟨(putObj_other o fun e => by omega).trans (h.out k hk h1 h2 h3).1, (h.out k hk h1 h2 h3).2⟩
    keepM := fun id k hk => ⟨fun hlt => (putObj_other o fun e => by grind).trans ((h.keepM id k hk).1 hlt), (h.keepM id k hk).2⟩ }
structure BackC (P : Program) (k : FuncId) (el : TypeId) : Prop where
  body : ∃ fn, P.funcs[k]? = some fn ∧ fn.body.isSome = true ∧ (fn.name == "runtime.NumGoroutine") = false
  run : ∀ (sz : Nat), sizeA P el = some sz → ∀ (l b len cap : Nat) (base : Option Addr) (W : World) (J : Nat → World → Prop) (Jx : World → Prop), len ≤ 1000000000000000000 →
    W.cell? ⟨b, 0, none⟩ = some (.slice base len cap) →
    (∀ j W1, j < len → J (j + 1) W1 → W1.cell? ⟨b, 0, none⟩ = some (.slice base len cap) ∧ ∃ bb o x, base = some ⟨bb, o, none⟩ ∧ (∀ q, q < sz → ∃ v, W1.cell? ⟨bb, o + j * sz + q, none⟩ = some v) ∧ (Instr.loadAt el (.pointer (some ⟨bb, o + j * sz, none⟩))).run P W1 = .ok x W1 ∧
      YieldAt (FW none) 0 P l #[.int .i64 j, x] W1 fun e W' => (e = .returned (.bool true) ∧ J j W') ∨ (e = .returned (.bool false) ∧ Jx W')) →
    J len W →
    CallsIn (FW none) 0 P k #[.func (.yield l) #[] #[], .pointer (some ⟨b, 0, none⟩)] W fun e W' => (∃ v, e = .returned v) ∧ (J 0 W' ∨ Jx W')
end Go.Tel
