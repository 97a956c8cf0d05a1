/-
  Helpers for proofs about unknown arguments.
-/
import Derived.Test.YtpmafnbhkhdaiaaGreatDoorWvC
set_option linter.unusedSimpArgs false
set_option linter.unusedVariables false
namespace Go.Tel
theorem wrap64 {n : Int} (h1 : -9223372036854775808 ≤ n) (h2 : n < 9223372036854775808) : IntKind.wrap .i64 n = n := by
  unfold IntKind.wrap
  simp [IntKind.signed, IntKind.bits] <;> omega
theorem wAri_fit {n : Int} {K : AV → Prop} (h1 : -9223372036854775808 ≤ n) (h2 : n < 9223372036854775808) (h : K (I64 n)) : wAri .i64 n K := by
  unfold wAri
  rw [wrap64 h1 h2]
  exact h
def RowsA (a : AV) (rows : List (List PV)) : Prop := a = .pv (.list rows) ∨ a = .capped rows
theorem RowsA.list (rows : List (List PV)) : RowsA (.pv (.list rows)) rows := .inl rfl
theorem RowsA.capped (rows : List (List PV)) : RowsA (.capped rows) rows := .inr rfl
theorem RowsA.rowsOf {a : AV} {rows : List (List PV)} (h : RowsA a rows) : rowsOf a = some rows := by rcases h with rfl | rfl <;> rfl
theorem RowsA.ok {a : AV} {rows : List (List PV)} (h : RowsA a rows) : okCell a = true := by rcases h with rfl | rfl <;> rfl
theorem RowsA.noBlk {a : AV} {rows : List (List PV)} (h : RowsA a rows) : noBlk a = true := by rcases h with rfl | rfl <;> rfl
theorem RowsA.noId {a : AV} {rows : List (List PV)} (h : RowsA a rows) : noId a = true := by rcases h with rfl | rfl <;> rfl
theorem RowsA.toPV {a : AV} {rows : List (List PV)} (h : RowsA a rows) : toPV a = some (.list rows) := by rcases h with rfl | rfl <;> rfl
theorem RowsA.close {a : AV} {rows : List (List PV)} (h : RowsA a rows) (bs : List (List AV)) (n m : Nat) : close bs n m a = some a := by rcases h with rfl | rfl <;> simp [Tel.close]
theorem RowsA.cells {a : AV} {rows : List (List PV)} (h : RowsA a rows) : cellsOf a = [a] := by rcases h with rfl | rfl <;> rfl
theorem RowsA.lenA {a : AV} {rows : List (List PV)} (h : RowsA a rows) (s : Sto) : lenA s a = some rows.length := by rcases h with rfl | rfl <;> rfl
theorem RowsA.idsLt {a : AV} {rows : List (List PV)} (h : RowsA a rows) (n : Nat) : idsLt n a = true := by rcases h with rfl | rfl <;> rfl
theorem okI {k : IntKind} {n : Int} : okCell (.pv (.sc (.int k n))) = true := rfl
theorem ceI {k : IntKind} {n : Int} : cellsOf (.pv (.sc (.int k n))) = [.pv (.sc (.int k n))] := rfl
theorem okB {b : Bool} : okCell (.pv (.sc (.bool b))) = true := rfl
theorem ceB {b : Bool} : cellsOf (.pv (.sc (.bool b))) = [.pv (.sc (.bool b))] := rfl
theorem okS {b : ByteArray} : okCell (.pv (.sc (.string b))) = true := rfl
theorem ceS {b : ByteArray} : cellsOf (.pv (.sc (.string b))) = [.pv (.sc (.string b))] := rfl
theorem okL {r : List (List PV)} : okCell (.pv (.list r)) = true := rfl
theorem ceL {r : List (List PV)} : cellsOf (.pv (.list r)) = [.pv (.list r)] := rfl
theorem okC {r : List (List PV)} : okCell (.capped r) = true := rfl
theorem ceC {r : List (List PV)} : cellsOf (.capped r) = [.capped r] := rfl
theorem okO {t : Nat} {r : List (List PV)} : okCell (.own t r) = true := rfl
theorem ceO {t : Nat} {r : List (List PV)} : cellsOf (.own t r) = [.own t r] := rfl
theorem okP {i o : Nat} : okCell (.ptr i o) = true := rfl
theorem ceP {i o : Nat} : cellsOf (.ptr i o) = [.ptr i o] := rfl
theorem okG {i o : Nat} : okCell (.gptr i o) = true := rfl
theorem ceG {i o : Nat} : cellsOf (.gptr i o) = [.gptr i o] := rfl
theorem okE {r : List PV} {o : Nat} : okCell (.eptr r o) = true := rfl
theorem ceE {r : List PV} {o : Nat} : cellsOf (.eptr r o) = [.eptr r o] := rfl
theorem okR {i o l z : Nat} : okCell (.ref i o l z) = true := rfl
theorem ceR {i o l z : Nat} : cellsOf (.ref i o l z) = [.ref i o l z] := rfl
theorem okF {f : Fn} {a b : List AV} : okCell (.func f a b) = true := rfl
theorem ceF {f : Fn} {a b : List AV} : cellsOf (.func f a b) = [.func f a b] := rfl
theorem okX {t : TypeId} {v : AV} : okCell (.iface t v) = true := rfl
theorem ceX {t : TypeId} {v : AV} : cellsOf (.iface t v) = [.iface t v] := rfl
theorem okM {i : Nat} : okCell (.mref i) = true := rfl
theorem ceM {i : Nat} : cellsOf (.mref i) = [.mref i] := rfl
theorem okN  : okCell (.pv (.sc (.pointer none))) = true := rfl
theorem ceN  : cellsOf (.pv (.sc (.pointer none))) = [.pv (.sc (.pointer none))] := rfl
theorem okNf  : okCell (.pv (.sc .nilFunc)) = true := rfl
theorem ceNf  : cellsOf (.pv (.sc .nilFunc)) = [.pv (.sc .nilFunc)] := rfl
theorem okNi  : okCell (.pv (.sc .nilIface)) = true := rfl
theorem ceNi  : cellsOf (.pv (.sc .nilIface)) = [.pv (.sc .nilIface)] := rfl
theorem ceA {cs : List AV} : cellsOf (.agg cs) = cs := rfl
theorem roL {r : List (List PV)} : rowsOf (.pv (.list r)) = some r := rfl
theorem leL {r : List (List PV)} (s : Sto) : lenA s (.pv (.list r)) = some r.length := rfl
theorem roC {r : List (List PV)} : rowsOf (.capped r) = some r := rfl
theorem leC {r : List (List PV)} (s : Sto) : lenA s (.capped r) = some r.length := rfl
theorem roO {t : Nat} {r : List (List PV)} : rowsOf (.own t r) = some r := rfl
theorem leO {t : Nat} {r : List (List PV)} (s : Sto) : lenA s (.own t r) = some r.length := rfl
theorem tpP {p : PV} : toPV (.pv p) = some p := rfl
theorem tpC {r : List (List PV)} : toPV (.capped r) = some (.list r) := rfl
theorem tpO {t : Nat} {r : List (List PV)} : toPV (.own t r) = some (.list r) := rfl
theorem clP {bs : List (List AV)} {n m : Nat} {p : PV} : close bs n m (.pv p) = some (.pv p) := by simp [close]
theorem clC {bs : List (List AV)} {n m : Nat} {r : List (List PV)} : close bs n m (.capped r) = some (.capped r) := by simp [close]
theorem clO {bs : List (List AV)} {n t : Nat} {r : List (List PV)} : close bs n 0 (.own t r) = some (.pv (.list r)) := by simp [close]
theorem clF {bs : List (List AV)} {n m : Nat} {f : Fn} : close bs n m (.func f [] []) = some (.func f [] []) := by simp [close, closeL]
theorem clA {bs : List (List AV)} {n m : Nat} {cs : List AV} : close bs n m (.agg cs) = (closeL bs n m cs).map .agg := by rw [close]; cases closeL bs n m cs <;> rfl
theorem clT {bs : List (List AV)} {n m : Nat} {cs : List AV} : close bs n m (.tuple cs) = (closeL bs n m cs).map .tuple := by rw [close]; cases closeL bs n m cs <;> rfl
theorem clN {bs : List (List AV)} {n m : Nat} : closeL bs n m [] = some [] := by rw [closeL]
theorem clL {bs : List (List AV)} {n m : Nat} {c : AV} {cs : List AV} : closeL bs n m (c :: cs) = (close bs n m c).bind fun c => (closeL bs n m cs).map (c :: ·) := by
  rw [closeL]
  cases close bs n m c <;> cases closeL bs n m cs <;> rfl
theorem nbP {p : PV} : noBlk (.pv p) = true := by simp [noBlk]
theorem nbC {r : List (List PV)} : noBlk (.capped r) = true := by simp [noBlk]
theorem nbO {t : Nat} {r : List (List PV)} : noBlk (.own t r) = true := by simp [noBlk]
theorem nbN : noBlkL [] = true := by simp [noBlkL]
theorem nbL {c : AV} {cs : List AV} : noBlkL (c :: cs) = (noBlk c && noBlkL cs) := by simp [noBlkL]
theorem get_app {α : Type} (l m : List α) (k : Nat) : (l ++ m)[l.length + k]? = m[k]? := by
  rw [List.getElem?_append_right (by omega)]
  congr 1
  omega
theorem set_app {α : Type} (l m : List α) (k : Nat) (v : α) : (l ++ m).set (l.length + k) v = l ++ m.set k v := by
  rw [List.set_append_right _ _ (by omega)]
  congr 2
  omega
theorem get_app0 {α : Type} (l m : List α) : (l ++ m)[l.length]? = m[0]? := get_app l m 0
theorem set_app0 {α : Type} (l m : List α) (v : α) : (l ++ m).set l.length v = l ++ m.set 0 v := set_app l m 0 v
end Go.Tel
/-
  Helpers: calls that write, streams of integers, equality of values with themselves.
-/
namespace Go.Tel
def RowsO (a : AV) (rows : List (List PV)) : Prop := RowsA a rows ∨ ∃ t, a = .own t rows
theorem RowsO.ok {a : AV} {rows : List (List PV)} (h : RowsO a rows) : okCell a = true := by
  rcases h with h | ⟨t, rfl⟩
  · exact h.ok
  · rfl
theorem RowsO.noBlk {a : AV} {rows : List (List PV)} (h : RowsO a rows) : noBlk a = true := by
  rcases h with h | ⟨t, rfl⟩
  · exact h.noBlk
  · simp [Tel.noBlk]
theorem RowsO.toPV {a : AV} {rows : List (List PV)} (h : RowsO a rows) : toPV a = some (.list rows) := by
  rcases h with h | ⟨t, rfl⟩
  · exact h.toPV
  · rfl
theorem RowsO.idsLt {a : AV} {rows : List (List PV)} (h : RowsO a rows) (n : Nat) : idsLt n a = true := by
  rcases h with h | ⟨t, rfl⟩
  · exact h.idsLt n
  · simp [Tel.idsLt]
theorem RowsO.lenA {a : AV} {rows : List (List PV)} (h : RowsO a rows) (s : Sto) : lenA s a = some rows.length := by
  rcases h with h | ⟨t, rfl⟩
  · exact h.lenA s
  · rfl
theorem RowsO.rowsOf {a : AV} {rows : List (List PV)} (h : RowsO a rows) : rowsOf a = some rows := by
  rcases h with h | ⟨t, rfl⟩
  · exact h.rowsOf
  · rfl
theorem RowsO.cells {a : AV} {rows : List (List PV)} (h : RowsO a rows) : cellsOf a = [a] := by
  rcases h with h | ⟨t, rfl⟩
  · exact h.cells
  · rfl
theorem RowsO.closed {a : AV} {rows : List (List PV)} (h : RowsO a rows) (bs : List (List AV)) (n : Nat) : ∃ a', close bs n 0 a = some a' ∧ RowsA a' rows := by
  rcases h with h | ⟨t, rfl⟩
  · exact ⟨a, h.close _ _ _, h⟩
  · exact ⟨_, clO, .list _⟩
theorem RowsO.close {a : AV} {rows : List (List PV)} (h : RowsO a rows) (bs : List (List AV)) (n m : Nat) : ∃ a', close bs n m a = some a' ∧ RowsO a' rows := by
  rcases h with h | ⟨t, rfl⟩
  · exact ⟨a, h.close _ _ _, .inl h⟩
  · by_cases ht : t < m
    · exact ⟨.own t rows, by simp [Tel.close, ht], .inr ⟨t, rfl⟩⟩
    · exact ⟨.pv (.list rows), by simp [Tel.close, ht], .inl (.list _)⟩
theorem QM_pv {rr : Bool} {n : Nat} {Post : AV → Sto → Prop} {p : PV} {s : Sto} (hok : ((s.bs.take n).all (idsLtL n)) = true) (h : Post (.pv p) ⟨s.bs.take n, s.ts⟩) : QM rr n Post (.pv p) s :=
  ⟨_, _, by simp [keepA, hok, newRef, Tel.close], h⟩
theorem QM_tuple {rr : Bool} {n : Nat} {Post : AV → Sto → Prop} {cs ds : List AV} {s : Sto} (hok : ((s.bs.take n).all (idsLtL n)) = true) (hc : closeL s.bs n s.ts.length cs = some ds) (h : Post (.tuple ds) ⟨s.bs.take n, s.ts⟩) : QM rr n Post (.tuple cs) s :=
  ⟨_, _, by simp [keepA, hok, newRef, Tel.close, hc], h⟩
def intRows (l : List Int) : List (List PV) := l.map fun n => [.sc (.int .i64 n)]
structure Src where
  ints : List Int
  cell : AV
  rows : RowsO cell (intRows ints)
def Src.length (l : Src) : Nat := l.ints.length
def Src.of (l : List Int) : Src := ⟨l, .pv (.list (intRows l)), .inl (.list _)⟩
theorem Src.okC (l : Src) : okCell l.cell = true := l.rows.ok
theorem Src.idsC (l : Src) (n : Nat) : idsLt n l.cell = true := l.rows.idsLt n
def StB (l : Src) (k : Nat) : List AV := [l.cell, I64 k]
structure Base (bs : List (List AV)) (id : Nat) (l : Src) : Prop where
  lt : id < bs.length
  ok : ∀ b ∈ bs, idsLtL bs.length b = true
  len : l.length < 2 ^ 61
def ST (bs : List (List AV)) (id : Nat) (l : Src) (k : Nat) : List (List AV) := bs.set id (StB l k)
mutual
theorem idsLt_mono {n m : Nat} (h : n ≤ m) : ∀ (v : AV), idsLt n v = true → idsLt m v = true
  | .ptr id _, hv => by simp [idsLt] at hv ⊢; omega
  | .ref id _ _ _, hv => by simp [idsLt] at hv ⊢; omega
  | .mref id, hv => by simp [idsLt] at hv ⊢; omega
  | .bz id _ _, hv => by simp [idsLt] at hv ⊢; omega
  | .func _ a b, hv => by
    simp [idsLt] at hv ⊢
    exact ⟨idsLtL_mono h a hv.1, idsLtL_mono h b hv.2⟩
  | .iface _ v, hv => by
    simp [idsLt] at hv ⊢
    exact idsLt_mono h v hv
  | .agg cs, hv => by
    simp [idsLt] at hv ⊢
    exact idsLtL_mono h cs hv
  | .tuple cs, hv => by
    simp [idsLt] at hv ⊢
    exact idsLtL_mono h cs hv
  | .pv _, _ => by simp [idsLt]
  | .gptr _ _, _ => by simp [idsLt]
  | .eptr _ _, _ => by simp [idsLt]
  | .capped _, _ => by simp [idsLt]
  | .own _ _, _ => by simp [idsLt]
  | .junk, _ => by simp [idsLt]
  | .mobj _ _, _ => by simp [idsLt]
theorem idsLtL_mono {n m : Nat} (h : n ≤ m) : ∀ (l : List AV), idsLtL n l = true → idsLtL m l = true
  | [], _ => by simp [idsLtL]
  | c :: cs, hv => by
    simp [idsLtL] at hv ⊢
    exact ⟨idsLt_mono h c hv.1, idsLtL_mono h cs hv.2⟩
end
theorem StB_ids (l : Src) (k n : Nat) : idsLtL n (StB l k) = true := by simp [StB, idsLtL, idsLt, l.idsC]
def LocB (bs m : List (List AV)) : Prop := ∀ b ∈ m, idsLtL (bs.length + m.length) b = true
theorem Base.all {bs : List (List AV)} {id : Nat} {l : Src} (h : Base bs id l) {m : List (List AV)} (hm : LocB bs m) (k : Nat) : ((ST bs id l k ++ m).all (idsLtL (bs.length + m.length))) = true := by
  rw [List.all_eq_true]
  intro b hb
  rcases List.mem_append.1 hb with h1 | h1
  · rcases List.mem_or_eq_of_mem_set h1 with h2 | h2
    · exact idsLtL_mono (by omega) b (h.ok b h2)
    · rw [h2]; exact StB_ids _ _ _
  · exact hm b h1
end Go.Tel
