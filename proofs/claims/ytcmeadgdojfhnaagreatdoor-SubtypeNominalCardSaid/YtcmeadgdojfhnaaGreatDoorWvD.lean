/-
  Helpers for proofs about unknown arguments.
-/
import Derived.Test.YtcmeadgdojfhnaaGreatDoorWvC
set_option linter.unusedSimpArgs false
set_option linter.unusedVariables false
namespace Go.Tel
theorem wrap64 {n : Int} (h1 : -9223372036854775808 ≤ n) (h2 : n < 9223372036854775808) : IntKind.wrap .i64 n = n := by grind[IntKind.wrap,IntKind.signed,IntKind.bits]
theorem wAri_fit {n : Int} {K : AV → Prop} (h1 : -9223372036854775808 ≤ n) (h2 : n < 9223372036854775808) (h : K (I64 n)) : wAri .i64 n K := by grind[wAri,wrap64]
def RowsA (a : AV) (rows : List (List PV)) : Prop := a = .pv (.list rows) ∨ a = .capped rows
theorem RowsA.list (rows : List (List PV)) : RowsA (.pv (.list rows)) rows := .inl rfl
theorem RowsA.capped (rows : List (List PV)) : RowsA (.capped rows) rows := .inr rfl
theorem RowsA.rowsOf {a : AV} {rows : List (List PV)} (h : RowsA a rows) : rowsOf a = some rows := by rcases h with rfl | rfl <;> rfl
theorem RowsA.ok {a : AV} {rows : List (List PV)} (h : RowsA a rows) : okCell a = true := by rcases h with rfl | rfl <;> rfl
theorem RowsA.noBlk {a : AV} {rows : List (List PV)} (h : RowsA a rows) : noBlk a = true := by rcases h with rfl | rfl <;> rfl
theorem RowsA.noId {a : AV} {rows : List (List PV)} (h : RowsA a rows) : noId a = true := by rcases h with rfl | rfl <;> rfl
theorem RowsA.toPV {a : AV} {rows : List (List PV)} (h : RowsA a rows) : toPV a = some (.list rows) := by rcases h with rfl | rfl <;> rfl
theorem RowsA.close {a : AV} {rows : List (List PV)} (h : RowsA a rows) (bs : List (List AV)) (n m : Nat) : close bs n m a = some a := by rcases h with rfl | rfl <;> rfl
theorem RowsA.cells {a : AV} {rows : List (List PV)} (h : RowsA a rows) : cellsOf a = [a] := by rcases h with rfl | rfl <;> rfl
theorem RowsA.lenA {a : AV} {rows : List (List PV)} (h : RowsA a rows) (s : Sto) : lenA s a = some rows.length := by rcases h with rfl | rfl <;> rfl
theorem RowsA.idsLt {a : AV} {rows : List (List PV)} (h : RowsA a rows) (n : Nat) : idsLt n a = true := by rcases h with rfl | rfl <;> rfl
theorem wIdx_rows {s : Sto} {k : Nat} {x : AV} {rows : List (List PV)} {i : Int} {row : List PV} {K : AV → Prop} (hx : RowsA x rows) (h0 : 0 ≤ i) (hr : rows[i.toNat]? = some row) (hl : row.length = k) (hk : k ≠ 0) (h : K (.eptr row 0)) : wIdx s k x (I64 i) K := by
  rcases hx with rfl | rfl
  · exact ⟨h0, row, hr, hl, hk, h⟩
  · exact ⟨h0, row, hr, hl, hk, h⟩
theorem okI {k : IntKind} {n : Int} : okCell (.pv (.sc (.int k n))) = true := rfl
theorem ceI {k : IntKind} {n : Int} : cellsOf (.pv (.sc (.int k n))) = [.pv (.sc (.int k n))] := rfl
theorem okB {b : Bool} : okCell (.pv (.sc (.bool b))) = true := rfl
theorem ceB {b : Bool} : cellsOf (.pv (.sc (.bool b))) = [.pv (.sc (.bool b))] := rfl
theorem okS {b : ByteArray} : okCell (.pv (.sc (.string b))) = true := rfl
theorem ceS {b : ByteArray} : cellsOf (.pv (.sc (.string b))) = [.pv (.sc (.string b))] := rfl
theorem okL {r : List (List PV)} : okCell (.pv (.list r)) = true := rfl
theorem ceL {r : List (List PV)} : cellsOf (.pv (.list r)) = [.pv (.list r)] := rfl
theorem okC {r : List (List PV)} : okCell (.capped r) = true := rfl
theorem ceC {r : List (List PV)} : cellsOf (.capped r) = [.capped r] := rfl
theorem okO {t : Nat} {r : List (List PV)} : okCell (.own t r) = true := rfl
theorem ceO {t : Nat} {r : List (List PV)} : cellsOf (.own t r) = [.own t r] := rfl
theorem okP {i o : Nat} : okCell (.ptr i o) = true := rfl
theorem ceP {i o : Nat} : cellsOf (.ptr i o) = [.ptr i o] := rfl
theorem okG {i o : Nat} : okCell (.gptr i o) = true := rfl
theorem ceG {i o : Nat} : cellsOf (.gptr i o) = [.gptr i o] := rfl
theorem okE {r : List PV} {o : Nat} : okCell (.eptr r o) = true := rfl
theorem ceE {r : List PV} {o : Nat} : cellsOf (.eptr r o) = [.eptr r o] := rfl
theorem okR {i o l z : Nat} : okCell (.ref i o l z) = true := rfl
theorem ceR {i o l z : Nat} : cellsOf (.ref i o l z) = [.ref i o l z] := rfl
theorem okF {f : Fn} {a b : List AV} : okCell (.func f a b) = true := rfl
theorem ceF {f : Fn} {a b : List AV} : cellsOf (.func f a b) = [.func f a b] := rfl
theorem okX {t : TypeId} {v : AV} : okCell (.iface t v) = true := rfl
theorem ceX {t : TypeId} {v : AV} : cellsOf (.iface t v) = [.iface t v] := rfl
theorem okM {i : Nat} : okCell (.mref i) = true := rfl
theorem ceM {i : Nat} : cellsOf (.mref i) = [.mref i] := rfl
theorem okN  : okCell (.pv (.sc (.pointer none))) = true := rfl
theorem ceN  : cellsOf (.pv (.sc (.pointer none))) = [.pv (.sc (.pointer none))] := rfl
theorem okNf  : okCell (.pv (.sc .nilFunc)) = true := rfl
theorem ceNf  : cellsOf (.pv (.sc .nilFunc)) = [.pv (.sc .nilFunc)] := rfl
theorem okNi  : okCell (.pv (.sc .nilIface)) = true := rfl
theorem ceNi  : cellsOf (.pv (.sc .nilIface)) = [.pv (.sc .nilIface)] := rfl
theorem ceA {cs : List AV} : cellsOf (.agg cs) = cs := rfl
theorem roL {r : List (List PV)} : rowsOf (.pv (.list r)) = some r := rfl
theorem leL {r : List (List PV)} (s : Sto) : lenA s (.pv (.list r)) = some r.length := rfl
theorem roC {r : List (List PV)} : rowsOf (.capped r) = some r := rfl
theorem leC {r : List (List PV)} (s : Sto) : lenA s (.capped r) = some r.length := rfl
theorem roO {t : Nat} {r : List (List PV)} : rowsOf (.own t r) = some r := rfl
theorem leO {t : Nat} {r : List (List PV)} (s : Sto) : lenA s (.own t r) = some r.length := rfl
theorem tpP {p : PV} : toPV (.pv p) = some p := rfl
theorem tpC {r : List (List PV)} : toPV (.capped r) = some (.list r) := rfl
theorem tpO {t : Nat} {r : List (List PV)} : toPV (.own t r) = some (.list r) := rfl
theorem clP {bs : List (List AV)} {n m : Nat} {p : PV} : close bs n m (.pv p) = some (.pv p) := by rfl
theorem clC {bs : List (List AV)} {n m : Nat} {r : List (List PV)} : close bs n m (.capped r) = some (.capped r) := by rfl
theorem clO {bs : List (List AV)} {n t : Nat} {r : List (List PV)} : close bs n 0 (.own t r) = some (.pv (.list r)) := by rfl
theorem clF {bs : List (List AV)} {n m : Nat} {f : Fn} : close bs n m (.func f [] []) = some (.func f [] []) := by rfl
theorem clA {bs : List (List AV)} {n m : Nat} {cs : List AV} : close bs n m (.agg cs) = (closeL bs n m cs).map .agg := by grind[close]
theorem clT {bs : List (List AV)} {n m : Nat} {cs : List AV} : close bs n m (.tuple cs) = (closeL bs n m cs).map .tuple := by grind[close]
theorem clN {bs : List (List AV)} {n m : Nat} : closeL bs n m [] = some [] := by rfl
theorem clL {bs : List (List AV)} {n m : Nat} {c : AV} {cs : List AV} : closeL bs n m (c :: cs) = (close bs n m c).bind fun c => (closeL bs n m cs).map (c :: ·) := by
  rw [closeL]
  cases close bs n m c <;> cases closeL bs n m cs <;> rfl
theorem nbP {p : PV} : noBlk (.pv p) = true := by rfl
theorem nbC {r : List (List PV)} : noBlk (.capped r) = true := by rfl
theorem nbO {t : Nat} {r : List (List PV)} : noBlk (.own t r) = true := by rfl
theorem nbN : noBlkL [] = true := by rfl
theorem nbL {c : AV} {cs : List AV} : noBlkL (c :: cs) = (noBlk c && noBlkL cs) := by rfl
theorem get_app {α : Type} (l m : List α) (k : Nat) : (l ++ m)[l.length + k]? = m[k]? := by grind
theorem set_app {α : Type} (l m : List α) (k : Nat) (v : α) : (l ++ m).set (l.length + k) v = l ++ m.set k v := by simp
theorem get_app0 {α : Type} (l m : List α) : (l ++ m)[l.length]? = m[0]? := get_app l m 0
theorem set_app0 {α : Type} (l m : List α) (v : α) : (l ++ m).set l.length v = l ++ m.set 0 v := set_app l m 0 v
def OkS (s : Sto) : Prop := ∀ b ∈ s.bs, idsLtL s.bs.length b = true
end Go.Tel
/-
  Helpers: calls that write, streams of integers, equality of values with themselves.
-/
namespace Go.Tel
def RowsO (a : AV) (rows : List (List PV)) : Prop := RowsA a rows ∨ ∃ t, a = .own t rows
theorem RowsO.ok {a : AV} {rows : List (List PV)} (h : RowsO a rows) : okCell a = true := by
  rcases h with h | ⟨t, rfl⟩
  · exact h.ok
  rfl
theorem RowsO.noBlk {a : AV} {rows : List (List PV)} (h : RowsO a rows) : noBlk a = true := by
  rcases h with h | ⟨t, rfl⟩
  · exact h.noBlk
  rfl
theorem RowsO.toPV {a : AV} {rows : List (List PV)} (h : RowsO a rows) : toPV a = some (.list rows) := by
  rcases h with h | ⟨t, rfl⟩
  · exact h.toPV
  rfl
theorem RowsO.idsLt {a : AV} {rows : List (List PV)} (h : RowsO a rows) (n : Nat) : idsLt n a = true := by
  rcases h with h | ⟨t, rfl⟩
  · exact h.idsLt n
  rfl
theorem RowsO.lenA {a : AV} {rows : List (List PV)} (h : RowsO a rows) (s : Sto) : lenA s a = some rows.length := by
  rcases h with h | ⟨t, rfl⟩
  · exact h.lenA s
  rfl
theorem RowsO.rowsOf {a : AV} {rows : List (List PV)} (h : RowsO a rows) : rowsOf a = some rows := by
  rcases h with h | ⟨t, rfl⟩
  · exact h.rowsOf
  rfl
theorem RowsO.cells {a : AV} {rows : List (List PV)} (h : RowsO a rows) : cellsOf a = [a] := by
  rcases h with h | ⟨t, rfl⟩
  · exact h.cells
  rfl
theorem RowsO.closed {a : AV} {rows : List (List PV)} (h : RowsO a rows) (bs : List (List AV)) (n : Nat) : ∃ a', close bs n 0 a = some a' ∧ RowsA a' rows := by
  rcases h with h | ⟨t, rfl⟩
  · exact ⟨a, h.close _ _ _, h⟩
  · exact ⟨_, clO, .list _⟩
theorem RowsO.close {a : AV} {rows : List (List PV)} (h : RowsO a rows) (bs : List (List AV)) (n m : Nat) : ∃ a', close bs n m a = some a' ∧ RowsO a' rows := by
  rcases h with h | ⟨t, rfl⟩
  · exact ⟨a, h.close _ _ _, .inl h⟩
  · by_cases ht : t < m
    · exact ⟨.own t rows, by grind[Tel.close], .inr ⟨t, rfl⟩⟩
    · exact ⟨.pv (.list rows), by grind[Tel.close], .inl (.list _)⟩
theorem QM_pv {rr : Bool} {n : Nat} {Post : AV → Sto → Prop} {p : PV} {s : Sto} (hok : ((s.bs.take n).all (idsLtL n)) = true) (h : Post (.pv p) ⟨s.bs.take n, s.ts⟩) : QM rr n Post (.pv p) s :=
  ⟨_, _, by grind[keepA,newRef,Tel.close], h⟩
theorem QM_agg {rr : Bool} {n : Nat} {Post : AV → Sto → Prop} {cs ds : List AV} {s : Sto} (hok : ((s.bs.take n).all (idsLtL n)) = true) (hc : closeL s.bs n s.ts.length cs = some ds) (h : Post (.agg ds) ⟨s.bs.take n, s.ts⟩) : QM rr n Post (.agg cs) s :=
  ⟨_, _, by grind[keepA,newRef,Tel.close], h⟩
theorem QM_tuple {rr : Bool} {n : Nat} {Post : AV → Sto → Prop} {cs ds : List AV} {s : Sto} (hok : ((s.bs.take n).all (idsLtL n)) = true) (hc : closeL s.bs n s.ts.length cs = some ds) (h : Post (.tuple ds) ⟨s.bs.take n, s.ts⟩) : QM rr n Post (.tuple cs) s :=
  ⟨_, _, by grind[keepA,newRef,Tel.close], h⟩
def intRows (l : List Int) : List (List PV) := l.map fun n => [.sc (.int .i64 n)]
theorem intRows_len (l : List Int) : (intRows l).length = l.length := by simp [intRows]
structure Src where
  ints : List Int
  cell : AV
  rows : RowsO cell (intRows ints)
def Src.length (l : Src) : Nat := l.ints.length
def Src.of (l : List Int) : Src := ⟨l, .pv (.list (intRows l)), .inl (.list _)⟩
theorem Src.of_length (l : List Int) : (Src.of l).length = l.length := rfl
theorem Src.lenC (l : Src) (s : Sto) : lenA s l.cell = some l.length := by rw [l.rows.lenA, intRows_len]; rfl
theorem Src.okC (l : Src) : okCell l.cell = true := l.rows.ok
theorem Src.idsC (l : Src) (n : Nat) : idsLt n l.cell = true := l.rows.idsLt n
theorem wIdx_rowsO {s : Sto} {k : Nat} {x : AV} {rows : List (List PV)} {i : Int} {row : List PV} {K : AV → Prop} (hx : RowsO x rows) (h0 : 0 ≤ i) (hr : rows[i.toNat]? = some row) (hl : row.length = k) (hk : k ≠ 0) (h : K (.eptr row 0)) : wIdx s k x (I64 i) K := by
  rcases hx with hx | ⟨t, rfl⟩
  · grind[wIdx_rows]
  · exact ⟨h0, row, hr, hl, hk, h⟩
def StB (l : Src) (k : Nat) : List AV := [l.cell, I64 k]
structure Base (bs : List (List AV)) (id : Nat) (l : Src) : Prop where
  lt : id < bs.length
  ok : ∀ b ∈ bs, idsLtL bs.length b = true
  len : l.length < 2 ^ 61
def ST (bs : List (List AV)) (id : Nat) (l : Src) (k : Nat) : List (List AV) := bs.set id (StB l k)
theorem ST_len {bs : List (List AV)} {id : Nat} {l : Src} {k : Nat} : (ST bs id l k).length = bs.length := by simp [ST]
theorem ST_get {bs : List (List AV)} {id : Nat} {l : Src} {k : Nat} (h : id < bs.length) (m : List (List AV)) : (ST bs id l k ++ m)[id]? = some (StB l k) := by grind[ST]
theorem ST_set {bs : List (List AV)} {id : Nat} {l : Src} {k k' : Nat} (h : id < bs.length) (m : List (List AV)) : (ST bs id l k ++ m).set id (StB l k') = ST bs id l k' ++ m := by simp[*,ST]
mutual
theorem idsLt_mono {n m : Nat} (h : n ≤ m) : ∀ (v : AV), idsLt n v = true → idsLt m v = true
  | .ptr id _, hv => by simp [idsLt] at hv ⊢; omega
  | .ref id _ _ _, hv => by simp [idsLt] at hv ⊢; omega
  | .mref id, hv => by simp [idsLt] at hv ⊢; omega
  | .bz id _ _, hv => by simp [idsLt] at hv ⊢; omega
  | .func _ a b, hv => by
    simp [idsLt] at hv ⊢
    exact ⟨idsLtL_mono h a hv.1, idsLtL_mono h b hv.2⟩
  | .iface _ v, hv => by
    simp [idsLt] at hv ⊢
    exact idsLt_mono h v hv
  | .agg cs, hv => by
    simp [idsLt] at hv ⊢
    exact idsLtL_mono h cs hv
  | .tuple cs, hv => by
    simp [idsLt] at hv ⊢
    exact idsLtL_mono h cs hv
  | .pv _, _ => by rfl
  | .gptr _ _, _ => by rfl
  | .eptr _ _, _ => by rfl
  | .capped _, _ => by rfl
  | .own _ _, _ => by rfl
  | .junk, _ => by rfl
  | .mobj _ _, _ => by rfl
theorem idsLtL_mono {n m : Nat} (h : n ≤ m) : ∀ (l : List AV), idsLtL n l = true → idsLtL m l = true
  | [], _ => by rfl
  | c :: cs, hv => by
    simp [idsLtL] at hv ⊢
    exact ⟨idsLt_mono h c hv.1, idsLtL_mono h cs hv.2⟩
end
theorem StB_ids (l : Src) (k n : Nat) : idsLtL n (StB l k) = true := by simp [StB, idsLtL, idsLt, l.idsC]
def LocB (bs m : List (List AV)) : Prop := ∀ b ∈ m, idsLtL (bs.length + m.length) b = true
theorem Base.all {bs : List (List AV)} {id : Nat} {l : Src} (h : Base bs id l) {m : List (List AV)} (hm : LocB bs m) (k : Nat) : ((ST bs id l k ++ m).all (idsLtL (bs.length + m.length))) = true := by
  rw [List.all_eq_true]
  intro b hb
  rcases List.mem_append.1 hb with h1 | h1
  · rcases List.mem_or_eq_of_mem_set h1 with h2 | h2
    · exact idsLtL_mono (by omega) b (h.ok b h2)
    grind[StB_ids]
  · exact hm b h1
def Apd (lo : Nat) (ts : List (Nat × TypeId)) (k : TypeId) (a : AV) (rows : List (List PV)) : Prop := a = .capped rows ∨ ∃ t, a = .own t rows ∧ ts[t]? = some (rows.length, k) ∧ lo ≤ t
theorem Apd.rowsO {lo : Nat} {ts : List (Nat × Nat)} {k : Nat} {a : AV} {rows : List (List PV)} (h : Apd lo ts k a rows) : RowsO a rows := by
  rcases h with rfl | ⟨t, rfl, _⟩
  · exact .inl (.capped _)
  · exact .inr ⟨t, rfl⟩
theorem Apd.grow {lo : Nat} {ts x : List (Nat × Nat)} {k : Nat} {a : AV} {rows : List (List PV)} (h : Apd lo ts k a rows) : Apd lo (ts ++ x) k a rows := by
  rcases h with rfl | ⟨t, rfl, h1, h2⟩
  · exact .inl rfl
  · refine .inr ⟨t, rfl, ?_, h2⟩
    grind
theorem toPVs_map : ∀ row : List PV, toPVs (row.map .pv) = some row
  | [] => rfl
  | p :: row => by simp [toPVs, toPV, toPVs_map row]
theorem wApp_row {L : Lim} {bs : List (List AV)} {ts x : List (Nat × TypeId)} {e : TypeId} {k bytes : Nat} {a : AV} {rows : List (List PV)} {row : List PV} {K : AV → Sto → Prop} (ha : Apd ts.length (ts ++ x) e a rows) (hrt : L.rt ≤ ts.length) (hrows : ∀ r ∈ rows, r.length = k) (hrow : row.length = k) (hk : 0 < k)
    (hok : (row.map AV.pv).all okCell = true) (hb : (rows.length + 1) * bytes ≤ 2 ^ 45) (hb2 : rows.length + 1 ≤ 2 ^ 45) (h : ∀ a' x', Apd ts.length (ts ++ x') e a' (rows ++ [row]) → K a' ⟨bs, ts ++ x'⟩) :
    wApp false L ⟨bs, ts ++ x⟩ e k bytes a (.capped [row]) K := by
  have hsrc : srcCells ⟨bs, ts ++ x⟩ k (.capped [row]) = some (row.map .pv) := by grind[srcCells,rowsOf]
  have hall : (rows.all fun r => r.length == k) = true := by grind
  have hdiv : row.length / k = 1 := by simp[*]
  have hby : rowsBy k 1 row = [row] := by grind[rowsBy]
  unfold wApp
  rw [hsrc]
  obtain ⟨c, cs, hc⟩ : ∃ c cs, row = c :: cs := by
    cases row with
    | nil => grind
    | cons c cs => simp
  have hmap : row.map AV.pv = .pv c :: cs.map .pv := by grind
  have hl : (AV.pv c :: cs.map .pv).length / k = 1 := by grind
  have htp : toPVs (AV.pv c :: cs.map .pv) = some row := by grind[toPVs_map]
  rw [hmap] at hok
  simp only [wO, hmap, hok, hl, htp, hby]
  refine ⟨trivial, ?_⟩
  rcases ha with rfl | ⟨t, rfl, h1, h2⟩
  · refine ⟨⟨hb, hb2, hall⟩, ?_⟩
    have := h (.own (ts ++ x).length (rows ++ [row])) (x ++ [(rows.length + 1, e)]) (.inr ⟨_, rfl, by simp, by simp⟩)
    grind
  · refine ⟨⟨hb, hb2, h1, by omega, hall⟩, ?_⟩
    have hlt : t < (ts ++ x).length := (List.getElem?_eq_some_iff.1 h1).1
    have es : (ts ++ x).set t (rows.length + 1, e) = ts ++ x.set (t - ts.length) (rows.length + 1, e) := List.set_append_right _ _ h2
    have := h (.own t (rows ++ [row])) (x.set (t - ts.length) (rows.length + 1, e)) (.inr ⟨_, rfl, by grind, h2⟩)
    grind
theorem intEq_refl (n : Int) : intEq n n = true := by cases n <;> simp [intEq]
theorem bytesEq_refl (l : List UInt8) : bytesEq l l = true := by grind[bytesEq_iff]
theorem eqV_int (k : IntKind) (n : Int) : eqV (.int k n) (.int k n) = true := by simp [eqV, intEq_refl]
theorem eqV_str (b : ByteArray) : eqV (.string b) (.string b) = true := by simp [eqV, bytesEq_refl]
end Go.Tel
