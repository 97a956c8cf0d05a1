/-
  Terms ts plain data; their size and depth.
-/
import Derived.Test.YtmipbilokjkjiaaGreatDoorW1
import Derived.Test.YtmipbilokjkjiaaGreatDoorWpH
set_option linter.unusedSimpArgs false
set_option linter.unusedVariables false
namespace Go.Proofs.YtmipbilokjkjiaaGreatDoor
open Go.Tel
attribute [local simp] wNew wBox wBoxZ markT wCond wBuild fillS wO setCells wSt wLd wPart LFE wFad alive wInt wStr wGK wGd wPick wExt wLen wSlen wNot wNil okI ceI okB ceB okS ceS okL ceL okC ceC okO ceO okP ceP okG ceG okE ceE okR ceR okF ceF okX ceX okM ceM okN ceN okNf ceNf okNi ceNi ceA roL roC roO leL leC leO tpP tpC tpO clP clC clO clF clA clT clN clL nbP nbC nbO nbN nbL toPVs
inductive Ty where
  | mk (kind : Int) (name : List UInt8) (index : Int) (args : List Ty)
mutual
def rowT : Ty → List PV
  | .mk k n i ts => [.sc (.int .i64 k), .sc (.string ⟨n.toArray⟩), .sc (.int .i64 i), .list (rowsT ts)]
def rowsT : List Ty → List (List PV)
  | [] => []
  | v :: vs => rowT v :: rowsT vs
end
theorem rowsT_eq : ∀ l, rowsT l = l.map rowT
  | [] => by simp [rowsT]
  | v :: vs => by simp [rowsT, rowsT_eq vs]
theorem rowT_len (v : Ty) : (rowT v).length = 4 := by cases v; simp [rowT]
theorem rowsT_len (l : List Ty) : (rowsT l).length = l.length := by simp [rowsT_eq]
theorem rowsT_get {l : List Ty} {i : Nat} {a : Ty} (h : l[i]? = some a) : (rowsT l)[i]? = some (rowT a) := by simp [rowsT_eq, h]
/-- What a term is outside of slices. -/
def TRep (v : Ty) (x : AV) : Prop := match v with
  | .mk k n i ts => ∃ a, x = .agg [I64 k, SS n, I64 i, a] ∧ RowsA a (rowsT ts)
theorem TRep.of_row (v : Ty) : TRep v (.agg ((rowT v).map .pv)) := by
  cases v with
  | mk k n s es => exact ⟨_, by simp [rowT], .list _⟩
theorem drop_cons {α : Type} {l : List α} {i : Nat} {a : α} (h : l[i]? = some a) : l.drop i = a :: l.drop (i + 1) := by
  obtain ⟨h, e⟩ := List.getElem?_eq_some_iff.1 h
  rw [← e, List.drop_eq_getElem_cons h]
mutual
def size : Ty → Nat
  | .mk _ _ _ ts => sizeL ts + 1
def sizeL : List Ty → Nat
  | [] => 0
  | a :: l => size a + sizeL l
end
mutual
def depth : Ty → Nat
  | .mk _ _ _ ts => depthL ts + 1
def depthL : List Ty → Nat
  | [] => 0
  | a :: l => max (depth a) (depthL l)
end
theorem size_pos (t : Ty) : 0 < size t := by cases t; simp [size]
theorem sizeL_len : ∀ l : List Ty, l.length ≤ sizeL l
  | [] => by simp
  | a :: l => by
    have := size_pos a
    have := sizeL_len l
    simp only [List.length_cons, sizeL]
    omega
mutual
theorem depth_le : ∀ t : Ty, depth t ≤ size t
  | .mk _ _ _ ts => by
    have := depthL_le ts
    simp only [depth, size]; omega
theorem depthL_le : ∀ l : List Ty, depthL l ≤ sizeL l
  | [] => by simp [depthL]
  | a :: l => by
    have := depth_le a
    have := depthL_le l
    simp only [depthL, sizeL]; omega
end
theorem size_mem : ∀ {l : List Ty} {a : Ty}, a ∈ l → size a ≤ sizeL l
  | [], _, h => by cases h
  | b :: l, a, h => by
    simp only [sizeL]
    rcases List.mem_cons.1 h with rfl | h
    · omega
    · have := size_mem h; omega
section
variable {R : Nat → Option (List PV)}
theorem size_loop {ts : List Ty} {a : AV} (ha : RowsA a (rowsT ts)) (hl : sizeL ts < 2 ^ 60) (ih : ∀ t ∈ ts, PureC (env R) 52 [.agg ((rowT t).map .pv)] fun r => r = I64 (size t)) {Post : AV → Prop} :
    ∀ (j i c : Nat) (s : Sto), i + j = ts.length → c + sizeL (ts.drop i) < 2 ^ 61 → Post (I64 ((c + sizeL (ts.drop i) : Nat) : Int)) → P52_1 R 0 0 0 (I64 c) a (I64 ts.length) (I64 i) s (QP Post) := by
  have h60 := sizeL_len ts
  intro j
  induction j with
  | zero =>
    intro i c s hi hc hP
    refine p52_1 ?_
    have h1 : ¬ ((i : Int) < ts.length) := by omega
    simp [h1]
    refine p52_3 ?_
    have h2 : ts.drop i = [] := List.drop_of_length_le (by omega)
    rw [h2] at hP
    simpa [QP, QI, sizeL] using hP
  | succ j ihj =>
    intro i c s hi hc hP
    refine p52_1 ?_
    have h1 : ((i : Int) < ts.length) := by omega
    obtain ⟨t, ht⟩ : ∃ t, ts[i]? = some t := ⟨_, List.getElem?_eq_getElem (by omega)⟩
    have hd := drop_cons ht
    rw [hd] at hP hc
    simp only [sizeL] at hP hc
    simp [h1]
    refine p52_2 ?_
    refine wIdx_rows ha (row := rowT t) (by omega) (by simpa using rowsT_get ht) (rowT_len t) (by omega) ?_
    have e3 := ih t (List.mem_of_getElem? ht)
    have e4 : size t ≤ sizeL ts := size_mem (List.mem_of_getElem? ht)
    obtain ⟨k, n, x, es⟩ := t
    simp only [rowT, List.map_cons, List.map_nil] at e3
    simp [rowT, get_app, get_app0, set_app, set_app0]
    refine wCall_pure e3 ?_
    rintro v rfl
    simp only [wInt]
    refine ⟨⟨trivial, trivial⟩, wAri_fit (by omega) (by omega) (p52_4 ?_)⟩
    simp only [wInt]
    refine ⟨⟨trivial, trivial⟩, wAri_fit (by omega) (by omega) ?_⟩
    have := ihj (i + 1) (c + size (.mk k n x es)) ⟨s.bs ++ [[I64 k, SS n, I64 x, .pv (.list (rowsT es))]], s.ts⟩ (by omega) (by omega) (by simpa [Nat.add_assoc] using hP)
    simpa using this
mutual
theorem size_spec : ∀ (t : Ty), size t < 2 ^ 60 → ∀ (x : AV), TRep t x → PureC (env R) 52 [x] fun r => r = I64 (size t)
  | .mk k n i ts, h, x, hx => by
    obtain ⟨a, rfl, ha⟩ := hx
    simp only [size] at h
    have ih := sizes_spec ts (by omega)
    refine e52 (u0 := .agg [I64 k, SS n, I64 i, a]) (by simp [ha.close]) (p52_0 ?_)
    simp [ha.ok, ha.lenA, rowsT_len]
    refine size_loop ha (by omega) ih ts.length 0 1 _ (by omega) (by simp; omega) ?_
    simp [size]
    omega
theorem sizes_spec : ∀ (l : List Ty), sizeL l < 2 ^ 60 → ∀ t ∈ l, PureC (env R) 52 [.agg ((rowT t).map .pv)] fun r => r = I64 (size t)
  | [], _, _, h => by cases h
  | e :: l, ho, a, h => by
    simp only [sizeL] at ho
    rcases List.mem_cons.1 h with h' | h'
    · rw [h']
      exact size_spec e (by omega) _ (TRep.of_row e)
    · exact sizes_spec l (by omega) a h'
end
end
end Go.Proofs.YtmipbilokjkjiaaGreatDoor
/-
  Terms: the reference's size, and both depths.
-/
namespace Go.Proofs.YtmipbilokjkjiaaGreatDoor
open Go.Tel
attribute [local simp] wNew wBox wBoxZ markT wCond wBuild fillS wO setCells wSt wLd wPart LFE wFad alive wInt wStr wGK wGd wPick wExt wLen wSlen wNot wNil okI ceI okB ceB okS ceS okL ceL okC ceC okO ceO okP ceP okG ceG okE ceE okR ceR okF ceF okX ceX okM ceM okN ceN okNf ceNf okNi ceNi ceA roL roC roO leL leC leO tpP tpC tpO clP clC clO clF clA clT clN clL nbP nbC nbO nbN nbL toPVs
section
variable {R : Nat → Option (List PV)}
theorem rsize_loop {k i : Int} {n : List UInt8} {ts : List Ty} {a : AV} (ha : RowsA a (rowsT ts)) (hl : sizeL ts < 2 ^ 60) (ih : ∀ t ∈ ts, PureC (env R) 40 [.agg ((rowT t).map .pv)] fun r => r = I64 (size t)) {Post : AV → Prop} :
    ∀ (j q c : Nat), q + j = ts.length → c + sizeL (ts.drop q) < 2 ^ 61 → Post (I64 ((c + sizeL (ts.drop q) : Nat) : Int)) → P40_1 R 0 0 0 (.ptr 0 0) (I64 c) (I64 q) ⟨[[I64 k, SS n, I64 i, a]], []⟩ (QP Post) := by
  have h60 := sizeL_len ts
  intro j
  induction j with
  | zero =>
    intro q c hi hc hP
    refine p40_1 ?_
    have h1 : ¬ ((q : Int) < ts.length) := by omega
    simp [ha.lenA, rowsT_len, h1]
    refine p40_3 ?_
    have h2 : ts.drop q = [] := List.drop_of_length_le (by omega)
    rw [h2] at hP
    simpa [QP, QI, sizeL] using hP
  | succ j ihj =>
    intro q c hi hc hP
    refine p40_1 ?_
    have h1 : ((q : Int) < ts.length) := by omega
    obtain ⟨t, ht⟩ : ∃ t, ts[q]? = some t := ⟨_, List.getElem?_eq_getElem (by omega)⟩
    have hd := drop_cons ht
    rw [hd] at hP hc
    simp only [sizeL] at hP hc
    simp [ha.lenA, rowsT_len, h1]
    refine p40_2 ?_
    simp
    refine wIdx_rows ha (row := rowT t) (by omega) (by simpa using rowsT_get ht) (rowT_len t) (by omega) ?_
    have e3 := ih t (List.mem_of_getElem? ht)
    have e4 : size t ≤ sizeL ts := size_mem (List.mem_of_getElem? ht)
    obtain ⟨k, n, x, es⟩ := t
    simp only [rowT, List.map_cons, List.map_nil] at e3
    simp [rowT]
    refine wCall_pure e3 ?_
    rintro v rfl
    simp only [wInt]
    refine ⟨⟨trivial, trivial⟩, wAri_fit (by omega) (by omega) (p40_4 ?_)⟩
    simp only [wInt]
    refine ⟨⟨trivial, trivial⟩, wAri_fit (by omega) (by omega) ?_⟩
    have := ihj (q + 1) (c + size (.mk k n x es)) (by omega) (by omega) (by simpa [Nat.add_assoc] using hP)
    simpa using this
mutual
theorem rsize_spec : ∀ (t : Ty), size t < 2 ^ 60 → ∀ (x : AV), TRep t x → PureC (env R) 40 [x] fun r => r = I64 (size t)
  | .mk k n i ts, h, x, hx => by
    obtain ⟨a, rfl, ha⟩ := hx
    simp only [size] at h
    have ih := rsizes_spec ts (by omega)
    refine e40 (u0 := .agg [I64 k, SS n, I64 i, a]) (by simp [ha.close]) (p40_0 ?_)
    simp [ha.ok]
    refine rsize_loop ha (by omega) ih ts.length 0 1 (by omega) (by simp; omega) ?_
    simp [size]
    omega
theorem rsizes_spec : ∀ (l : List Ty), sizeL l < 2 ^ 60 → ∀ t ∈ l, PureC (env R) 40 [.agg ((rowT t).map .pv)] fun r => r = I64 (size t)
  | [], _, _, h => by cases h
  | e :: l, ho, a, h => by
    simp only [sizeL] at ho
    rcases List.mem_cons.1 h with h' | h'
    · rw [h']
      exact rsize_spec e (by omega) _ (TRep.of_row e)
    · exact rsizes_spec l (by omega) a h'
end
theorem depth_loop {ts : List Ty} {a : AV} (ha : RowsA a (rowsT ts)) (hl : sizeL ts < 2 ^ 60) (ih : ∀ t ∈ ts, PureC (env R) 53 [.agg ((rowT t).map .pv)] fun r => r = I64 (depth t)) {Post : AV → Prop} :
    ∀ (j i c : Nat) (s : Sto), i + j = ts.length → c < 2 ^ 60 → Post (I64 ((max c (depthL (ts.drop i)) + 1 : Nat) : Int)) → P53_1 R 0 0 0 (I64 c) a (I64 ts.length) (I64 i) s (QP Post) := by
  have h60 := sizeL_len ts
  intro j
  induction j with
  | zero =>
    intro i c s hi hc hP
    refine p53_1 ?_
    have h1 : ¬ ((i : Int) < ts.length) := by omega
    simp [h1]
    refine p53_3 ?_
    have h2 : ts.drop i = [] := List.drop_of_length_le (by omega)
    rw [h2] at hP
    simp only [depthL, Nat.max_zero] at hP
    simp only [wInt]
    refine ⟨⟨trivial, trivial⟩, wAri_fit (by omega) (by omega) ?_⟩
    exact ⟨_, clP, by simpa using hP⟩
  | succ j ihj =>
    intro i c s hi hc hP
    refine p53_1 ?_
    have h1 : ((i : Int) < ts.length) := by omega
    obtain ⟨t, ht⟩ : ∃ t, ts[i]? = some t := ⟨_, List.getElem?_eq_getElem (by omega)⟩
    have hd := drop_cons ht
    rw [hd] at hP
    simp only [depthL] at hP
    simp [h1]
    refine p53_2 ?_
    refine wIdx_rows ha (row := rowT t) (by omega) (by simpa using rowsT_get ht) (rowT_len t) (by omega) ?_
    have e3 := ih t (List.mem_of_getElem? ht)
    have e4 : size t ≤ sizeL ts := size_mem (List.mem_of_getElem? ht)
    have e5 := depth_le t
    obtain ⟨k, n, x, es⟩ := t
    simp only [rowT, List.map_cons, List.map_nil] at e3
    simp [rowT, get_app, get_app0, set_app, set_app0]
    refine wCall_pure e3 ?_
    rintro v rfl
    refine wAnyT_max (x := .tmp 13) (y := .tmp 15) (t := #[3, 3]) (by kernel_rfl) rfl rfl (p53_4 ?_)
    simp only [wInt]
    refine ⟨⟨trivial, trivial⟩, wAri_fit (by omega) (by omega) ?_⟩
    have := ihj (i + 1) (max c (depth (.mk k n x es))) ⟨s.bs ++ [[I64 k, SS n, I64 x, .pv (.list (rowsT es))]], s.ts⟩ (by omega) (by omega) (by simpa [Nat.max_assoc] using hP)
    have e6 : ((max c (depth (.mk k n x es)) : Nat) : Int) = max (c : Int) (depth (.mk k n x es)) := by omega
    rw [e6] at this
    simpa using this
mutual
theorem depth_spec : ∀ (t : Ty), size t < 2 ^ 60 → ∀ (x : AV), TRep t x → PureC (env R) 53 [x] fun r => r = I64 (depth t)
  | .mk k n i ts, h, x, hx => by
    obtain ⟨a, rfl, ha⟩ := hx
    simp only [size] at h
    have ih := depths_spec ts (by omega)
    refine e53 (u0 := .agg [I64 k, SS n, I64 i, a]) (by simp [ha.close]) (p53_0 ?_)
    simp [ha.ok, ha.lenA, rowsT_len]
    refine depth_loop ha (by omega) ih ts.length 0 0 _ (by omega) (by omega) ?_
    simp [depth]
theorem depths_spec : ∀ (l : List Ty), sizeL l < 2 ^ 60 → ∀ t ∈ l, PureC (env R) 53 [.agg ((rowT t).map .pv)] fun r => r = I64 (depth t)
  | [], _, _, h => by cases h
  | e :: l, ho, a, h => by
    simp only [sizeL] at ho
    rcases List.mem_cons.1 h with h' | h'
    · rw [h']
      exact depth_spec e (by omega) _ (TRep.of_row e)
    · exact depths_spec l (by omega) a h'
end
theorem rdepth_loop {k i : Int} {n : List UInt8} {ts : List Ty} {a : AV} (ha : RowsA a (rowsT ts)) (hl : sizeL ts < 2 ^ 60) (ih : ∀ t ∈ ts, PureC (env R) 41 [.agg ((rowT t).map .pv)] fun r => r = I64 (depth t)) {Post : AV → Prop} :
    ∀ (j q c : Nat), q + j = ts.length → c < 2 ^ 60 → Post (I64 ((max c (depthL (ts.drop q)) + 1 : Nat) : Int)) → P41_1 R 0 0 0 (.ptr 0 0) (I64 c) (I64 q) ⟨[[I64 k, SS n, I64 i, a]], []⟩ (QP Post) := by
  have h60 := sizeL_len ts
  intro j
  induction j with
  | zero =>
    intro q c hi hc hP
    refine p41_1 ?_
    have h1 : ¬ ((q : Int) < ts.length) := by omega
    simp [ha.lenA, rowsT_len, h1]
    refine p41_3 ?_
    have h2 : ts.drop q = [] := List.drop_of_length_le (by omega)
    rw [h2] at hP
    simp only [depthL, Nat.max_zero] at hP
    simp only [wInt]
    refine ⟨⟨trivial, trivial⟩, wAri_fit (by omega) (by omega) ?_⟩
    exact ⟨_, clP, by simpa using hP⟩
  | succ j ihj =>
    intro q c hi hc hP
    refine p41_1 ?_
    have h1 : ((q : Int) < ts.length) := by omega
    obtain ⟨t, ht⟩ : ∃ t, ts[q]? = some t := ⟨_, List.getElem?_eq_getElem (by omega)⟩
    have hd := drop_cons ht
    rw [hd] at hP
    simp only [depthL] at hP
    simp [ha.lenA, rowsT_len, h1]
    refine p41_2 ?_
    simp
    refine wIdx_rows ha (row := rowT t) (by omega) (by simpa using rowsT_get ht) (rowT_len t) (by omega) ?_
    have e3 := ih t (List.mem_of_getElem? ht)
    have e4 : size t ≤ sizeL ts := size_mem (List.mem_of_getElem? ht)
    have e5 := depth_le t
    obtain ⟨k, n, x, es⟩ := t
    simp only [rowT, List.map_cons, List.map_nil] at e3
    simp [rowT]
    refine wCall_pure e3 ?_
    rintro v rfl
    refine wAnyT_max (x := .tmp 12) (y := .tmp 18) (t := #[3, 3]) (by kernel_rfl) rfl rfl (p41_4 ?_)
    simp only [wInt]
    refine ⟨⟨trivial, trivial⟩, wAri_fit (by omega) (by omega) ?_⟩
    have := ihj (q + 1) (max c (depth (.mk k n x es))) (by omega) (by omega) (by simpa [Nat.max_assoc] using hP)
    have e6 : ((max c (depth (.mk k n x es)) : Nat) : Int) = max (c : Int) (depth (.mk k n x es)) := by omega
    rw [e6] at this
    simpa using this
mutual
theorem rdepth_spec : ∀ (t : Ty), size t < 2 ^ 60 → ∀ (x : AV), TRep t x → PureC (env R) 41 [x] fun r => r = I64 (depth t)
  | .mk k n i ts, h, x, hx => by
    obtain ⟨a, rfl, ha⟩ := hx
    simp only [size] at h
    have ih := rdepths_spec ts (by omega)
    refine e41 (u0 := .agg [I64 k, SS n, I64 i, a]) (by simp [ha.close]) (p41_0 ?_)
    simp [ha.ok]
    refine rdepth_loop ha (by omega) ih ts.length 0 0 (by omega) (by omega) ?_
    simp [depth]
theorem rdepths_spec : ∀ (l : List Ty), sizeL l < 2 ^ 60 → ∀ t ∈ l, PureC (env R) 41 [.agg ((rowT t).map .pv)] fun r => r = I64 (depth t)
  | [], _, _, h => by cases h
  | e :: l, ho, a, h => by
    simp only [sizeL] at ho
    rcases List.mem_cons.1 h with h' | h'
    · rw [h']
      exact rdepth_spec e (by omega) _ (TRep.of_row e)
    · exact rdepths_spec l (by omega) a h'
end
end
end Go.Proofs.YtmipbilokjkjiaaGreatDoor
/-
  Terms: free variables.
-/
namespace Go.Proofs.YtmipbilokjkjiaaGreatDoor
open Go.Tel
attribute [local simp] wNew wBox wBoxZ markT wCond wBuild fillS wO setCells wSt wLd wPart LFE wFad alive wInt wStr wGK wGd wPick wExt wLen wSlen wNot wNil okI ceI okB ceB okS ceS okL ceL okC ceC okO ceO okP ceP okG ceG okE ceE okR ceR okF ceF okX ceX okM ceM okN ceN okNf ceNf okNi ceNi ceA roL roC roO leL leC leO tpP tpC tpO clP clC clO clF clA clT clN clL nbP nbC nbO nbN nbL toPVs
/-- How many variables an argument is under. -/
def bnd (k : Int) (j : Nat) : Nat := bif k == 6 && j == 1 then 1 else 0
mutual
def clos (u : Nat) : Ty → Bool
  | .mk k _ i ts => bif k == 5 && decide ((u : Int) ≤ i) then false else closL u k 0 ts
def closL (u : Nat) (k : Int) (j : Nat) : List Ty → Bool
  | [] => true
  | t :: l => clos (u + bnd k j) t && closL u k (j + 1) l
end
mutual
theorem eqPL_row : ∀ t : Ty, eqPL (rowT t) (rowT t) = true
  | .mk k n i ts => by simp [rowT, eqPL, eqP, eqV_int, eqV_str, eqPLL_rows ts]
theorem eqPLL_rows : ∀ l : List Ty, eqPLL (rowsT l) (rowsT l) = true
  | [] => by simp [rowsT, eqPLL]
  | t :: l => by simp [rowsT, eqPLL, eqPL_row t, eqPLL_rows l]
end
theorem bnd_le (k : Int) (j : Nat) : bnd k j ≤ 1 := by
  unfold bnd
  cases (k == 6 && j == 1) <;> simp
section
variable {R : Nat → Option (List PV)}
theorem binders_spec {k i : Int} {n : List UInt8} {a : AV} {rows : List (List PV)} (ha : RowsA a rows) (j : Nat) : PureC (env R) 121 [.agg [I64 k, SS n, I64 i, a], I64 j] fun r => r = I64 (bnd k j) := by
  refine e121 (u0 := .agg [I64 k, SS n, I64 i, a]) (u1 := I64 j) (by simp [ha.close]) (p121_0 ?_)
  have h2 : (((j : Int)) == 1) = (j == 1) := by
    rw [Bool.eq_iff_iff, beq_iff_eq, beq_iff_eq]
    omega
  cases h1 : (k == 6) with
  | false =>
    simp [-beq_iff_eq, ha.ok, h1]
    refine p121_1 ?_
    simp [-beq_iff_eq, QP, QI, bnd, h1]
  | true =>
    cases h3 : (j == 1) with
    | false =>
      rw [h3] at h2
      simp [-beq_iff_eq, ha.ok, h1, h2]
      refine p121_1 ?_
      simp [-beq_iff_eq, QP, QI, bnd, h3]
    | true =>
      rw [h3] at h2
      simp [-beq_iff_eq, QP, QI, ha.ok, h1, h2, bnd, h3]
theorem rbinders_spec {k i : Int} {n : List UInt8} {a : AV} {rows : List (List PV)} (ha : RowsA a rows) (j : Nat) : PureC (env R) 132 [.agg [I64 k, SS n, I64 i, a], I64 j] fun r => r = I64 (bnd k j) := by
  refine e132 (u0 := .agg [I64 k, SS n, I64 i, a]) (u1 := I64 j) (by simp [ha.close]) (p132_0 ?_)
  have h2 : (((j : Int)) == 1) = (j == 1) := by
    rw [Bool.eq_iff_iff, beq_iff_eq, beq_iff_eq]
    omega
  cases h1 : (k == 6) with
  | false =>
    simp [-beq_iff_eq, ha.ok, h1]
    refine p132_1 ?_
    simp [-beq_iff_eq, QP, QI, bnd, h1]
  | true =>
    cases h3 : (j == 1) with
    | false =>
      rw [h3] at h2
      simp [-beq_iff_eq, ha.ok, h1, h2]
      refine p132_1 ?_
      simp [-beq_iff_eq, QP, QI, bnd, h3]
    | true =>
      rw [h3] at h2
      simp [-beq_iff_eq, QP, QI, ha.ok, h1, h2, bnd, h3]
theorem closed_loop {k i : Int} {n : List UInt8} {ts : List Ty} {a : AV} {u : Nat} (ha : RowsA a (rowsT ts)) (hl : sizeL ts < 2 ^ 60) (hu : u < 2 ^ 60)
    (ih : ∀ t ∈ ts, ∀ v, v ≤ u + 1 → PureC (env R) 102 [.agg ((rowT t).map .pv), I64 v] fun r => r = BB (clos v t)) {Post : AV → Prop} :
    ∀ (j q : Nat) (m : List (List AV)), q + j = ts.length → Post (BB (closL u k q (ts.drop q))) → P102_2 R 0 0 0 (I64 u) (.ptr 0 0) a (I64 ts.length) (I64 q) ⟨[I64 k, SS n, I64 i, a] :: m, []⟩ (QP Post) := by
  have h60 := sizeL_len ts
  intro j
  induction j with
  | zero =>
    intro q m hi hP
    refine p102_2 ?_
    have h1 : ¬ ((q : Int) < ts.length) := by omega
    simp [h1]
    refine p102_4 ?_
    have h2 : ts.drop q = [] := List.drop_of_length_le (by omega)
    rw [h2] at hP
    simpa [QP, QI, closL] using hP
  | succ j ihj =>
    intro q m hi hP
    refine p102_2 ?_
    have h1 : ((q : Int) < ts.length) := by omega
    obtain ⟨t, ht⟩ : ∃ t, ts[q]? = some t := ⟨_, List.getElem?_eq_getElem (by omega)⟩
    have hd := drop_cons ht
    rw [hd] at hP
    simp only [closL] at hP
    simp [h1]
    refine p102_3 ?_
    refine wIdx_rows ha (row := rowT t) (by omega) (by simpa using rowsT_get ht) (rowT_len t) (by omega) ?_
    have hb := bnd_le k q
    have e3 := ih t (List.mem_of_getElem? ht) (u + bnd k q) (by omega)
    obtain ⟨k', n', x, es⟩ := t
    simp only [rowT, List.map_cons, List.map_nil] at e3
    simp [rowT, get_app, get_app0, set_app, set_app0]
    refine wCall_pure (binders_spec ha q) ?_
    rintro v rfl
    simp only [wInt]
    refine ⟨⟨trivial, trivial⟩, wAri_fit (by omega) (by omega) ?_⟩
    have ec : (u : Int) + (bnd k q : Int) = ((u + bnd k q : Nat) : Int) := by omega
    rw [ec]
    refine wCall_pure e3 ?_
    rintro v rfl
    cases hc : clos (u + bnd k q) (.mk k' n' x es) with
    | false =>
      rw [hc] at hP
      simp [QP, QI, eqA, eqAL, eqP, eqV_int, eqV_str, eqPLL_rows]
      simpa using hP
    | true =>
      rw [hc] at hP
      simp [eqA, eqAL, eqP, eqV_int, eqV_str, eqPLL_rows]
      refine p102_5 ?_
      simp only [wInt]
      refine ⟨⟨trivial, trivial⟩, wAri_fit (by omega) (by omega) ?_⟩
      have := ihj (q + 1) (m ++ [[I64 k', SS n', I64 x, .pv (.list (rowsT es))]]) (by omega) (by simpa using hP)
      simpa using this
mutual
theorem closed_spec : ∀ (t : Ty), size t < 2 ^ 60 → ∀ (u : Nat), u + size t < 2 ^ 60 → ∀ (x : AV), TRep t x → PureC (env R) 102 [x, I64 u] fun r => r = BB (clos u t)
  | .mk k n i ts, h, u, hu, x, hx => by
    obtain ⟨a, rfl, ha⟩ := hx
    simp only [size] at h hu
    have ih := closeds_spec ts (by omega) (u + 1) (by omega)
    suffices H : ∀ Post : AV → Prop, Post (BB (clos u (.mk k n i ts))) → P102_0 R 0 0 0 (.agg [I64 k, SS n, I64 i, a]) (I64 u) ⟨[], []⟩ (QP Post) from
      e102 (u0 := .agg [I64 k, SS n, I64 i, a]) (u1 := I64 u) (by simp [ha.close]) (H _ rfl)
    intro Post hPost
    refine p102_0 ?_
    simp only [clos] at hPost
    have go : Post (BB (closL u k 0 ts)) → P102_1 R 0 0 0 (I64 u) (.ptr 0 0) ⟨[[I64 k, SS n, I64 i, a]], []⟩ (QP Post) := by
      intro hP
      refine p102_1 ?_
      simp [ha.lenA, rowsT_len]
      exact closed_loop (m := []) ha (by omega) (by omega) ih ts.length 0 (by omega) (by simpa using hP)
    cases h1 : (k == 5) with
    | false =>
      rw [h1] at hPost
      simp [-beq_iff_eq, ha.ok, h1]
      exact go (by simpa using hPost)
    | true =>
      rw [h1] at hPost
      cases h2 : decide ((u : Int) ≤ i) with
      | true =>
        rw [h2] at hPost
        simpa [-beq_iff_eq, -decide_eq_true_eq, QP, QI, ha.ok, h1, h2] using hPost
      | false =>
        rw [h2] at hPost
        simp [-beq_iff_eq, -decide_eq_false_iff_not, ha.ok, h1, h2]
        exact go (by simpa using hPost)
theorem closeds_spec : ∀ (l : List Ty), sizeL l < 2 ^ 60 → ∀ (w : Nat), w + sizeL l < 2 ^ 60 → ∀ t ∈ l, ∀ v, v ≤ w → PureC (env R) 102 [.agg ((rowT t).map .pv), I64 v] fun r => r = BB (clos v t)
  | [], _, _, _, _, h => by cases h
  | e :: l, ho, w, hw, a, h => by
    simp only [sizeL] at ho hw
    rcases List.mem_cons.1 h with h' | h'
    · rw [h']
      exact fun v hv => closed_spec e (by omega) v (by omega) _ (TRep.of_row e)
    · exact closeds_spec l (by omega) w (by omega) a h'
end
end
end Go.Proofs.YtmipbilokjkjiaaGreatDoor
/-
  Terms: free variables, the reference.
-/
namespace Go.Proofs.YtmipbilokjkjiaaGreatDoor
open Go.Tel
attribute [local simp] wNew wBox wBoxZ markT wCond wBuild fillS wO setCells wSt wLd wPart LFE wFad alive wInt wStr wGK wGd wPick wExt wLen wSlen wNot wNil okI ceI okB ceB okS ceS okL ceL okC ceC okO ceO okP ceP okG ceG okE ceE okR ceR okF ceF okX ceX okM ceM okN ceN okNf ceNf okNi ceNi ceA roL roC roO leL leC leO tpP tpC tpO clP clC clO clF clA clT clN clL nbP nbC nbO nbN nbL toPVs
theorem intRows_get {l : List Int} {i : Nat} {n : Int} (h : l[i]? = some n) : (intRows l)[i]? = some [.sc (.int .i64 n)] := by simp [intRows, h]
theorem eqA_rows {a : AV} {ts : List Ty} (h : RowsA a (rowsT ts)) : eqA a a = true := by
  rcases h with rfl | rfl <;> simp [eqA, eqP, eqPLL_rows]
theorem eqPLL_ints : ∀ l : List Int, eqPLL (intRows l) (intRows l) = true
  | [] => by simp [intRows, eqPLL]
  | t :: l => by
    have := eqPLL_ints l
    simp only [intRows] at this
    simp [intRows, eqPLL, eqPL, eqP, eqV_int, this]
section
variable {R : Nat → Option (List PV)}
theorem iins_end {l : List Int} {x : AV} (hx : RowsA x (intRows l)) (hl : l.length < 2 ^ 40) (v : Int) {Post : AV → Prop} (hP : ∀ r m, RowsA r (intRows m) → m ≠ [] → m.length ≤ l.length + 1 → Post r) (q : Nat) (hq : q ≤ l.length) :
    P131_4 R 0 0 0 x (I64 v) (I64 q) ⟨[], []⟩ (QP Post) := by
  refine p131_4 ?_
  have hlen : (intRows l).length = l.length := intRows_len l
  have hall : ((intRows l).all fun r => r.length == 1) = true := by
    rw [List.all_eq_true]
    intro r hr
    simpa using intRows_row r hr
  have slc : ∀ (lo hi : Option AV) (a b : Nat) (s : Sto) (K : AV → Prop), optNat 0 lo = some a → optNat l.length hi = some b → a ≤ b → b ≤ l.length → K (.pv (.list (((intRows l).take b).drop a))) → wSlc s 1 x lo hi none K := by
    intro lo hi a b s K h1 h2 h3 h4 hK
    have hr := hx.rowsOf
    rcases hx with rfl | rfl
    · simp only [wSlc, hr, wO, hlen]
      exact ⟨a, b, h1, h2, ⟨h3, h4, hall⟩, hK⟩
    · simp only [wSlc, hr, wO, hlen]
      exact ⟨a, b, h1, h2, ⟨h3, h4, hall⟩, hK⟩
  have hq1 : optNat 0 (some (I64 q)) = some q := by simp [optNat, natOfA]
  have hq2 : optNat l.length (some (I64 q)) = some q := by simp [optNat, natOfA]
  have e0 : ((intRows l).take q).drop 0 = intRows (l.take q) := by simp [intRows, List.map_take]
  have e1 : ((intRows l).take l.length).drop q = intRows (l.drop q) := by
    rw [List.take_of_length_le (by omega)]; simp [intRows, List.map_drop]
  simp [wBsl, repl, fillS, wO, toPVs, rowsBy]
  refine slc none (some (I64 q)) 0 q _ _ rfl hq2 (by omega) hq ?_
  rw [e0]
  have hL : ∀ (m : List Int), m.length = (intRows m).length := fun m => (intRows_len m).symm
  refine wApp_rows (ts := []) (x := []) (rows := []) (m := intRows (l.take q)) (.inl rfl) (by simp [LFE]) (by simp) intRows_row (by omega) (srcCells_rows (.inl (.list _)) intRows_row) intRows_ok (by rw [← hL]; simp; omega) (by rw [← hL]; simp; omega) ?_
  intro a1 x1 ha1
  simp [wBsl, repl, fillS, wO, toPVs, rowsBy, setCells]
  refine wApp_rows (ts := []) (m := intRows [v]) ha1 (by simp [LFE]) (by simpa using intRows_row) intRows_row (by omega) (srcCells_rows (.inl (.capped _)) intRows_row) intRows_ok (by simp [intRows]; omega) (by simp [intRows]; omega) ?_
  intro a2 x2 ha2
  refine slc (some (I64 q)) none q l.length _ _ hq1 rfl hq (by omega) ?_
  rw [e1]
  have e2 : [] ++ intRows (l.take q) ++ intRows [v] = intRows (l.take q ++ [v]) := by simp [intRows]
  rw [e2] at ha2
  refine wApp_rows (ts := []) (m := intRows (l.drop q)) ha2 (by simp [LFE]) intRows_row intRows_row (by omega) (srcCells_rows (.inl (.list _)) intRows_row) intRows_ok (by simp [intRows]; omega) (by simp [intRows]; omega) ?_
  intro a3 x3 ha3
  have e3 : intRows (l.take q ++ [v]) ++ intRows (l.drop q) = intRows (l.take q ++ [v] ++ l.drop q) := by simp [intRows]
  rw [e3] at ha3
  refine ⟨?_, ?_, ?_⟩
  · refine slc (some (I64 q)) none q l.length _ _ hq1 rfl hq (by omega) ?_
    rw [e1]
    simp [eqA, eqP, eqPLL_ints]
  · refine slc (some (I64 q)) none q l.length _ _ hq1 rfl hq (by omega) ?_
    rw [e1]
    simp [eqA, eqP, eqPLL_ints]
  · obtain ⟨v', h1, h2⟩ := ha3.rowsO.closed ([] : List (List AV)) 0
    exact ⟨v', h1, hP _ _ h2 (by simp) (by simp; omega)⟩
theorem iins_mid {l : List Int} {x : AV} (hx : RowsA x (intRows l)) (hl : l.length < 2 ^ 40) (v : Int) {Post : AV → Prop} (hP : ∀ r m, RowsA r (intRows m) → m ≠ [] → m.length ≤ l.length + 1 → Post r) (q : Nat) (hq : q ≤ l.length) :
    P131_3 R 0 0 0 x (I64 v) (I64 q) ⟨[], []⟩ (QP Post) := by
  refine p131_3 ?_
  have hlen : (intRows l).length = l.length := intRows_len l
  by_cases h : q < l.length
  · have h1 : ((q : Int) < l.length) := by omega
    obtain ⟨t, ht⟩ : ∃ t, l[q]? = some t := ⟨_, List.getElem?_eq_getElem (by omega)⟩
    simp [hx.lenA, hlen, h1]
    refine wIdx_rows hx (row := [.sc (.int .i64 t)]) (by omega) (by simpa using intRows_get ht) rfl (by omega) ?_
    simp
    refine ⟨fun _ => ?_, fun _ => iins_end hx hl v hP q hq⟩
    simp [QP, QI, hx.close]
    exact hP _ l hx (by intro e; rw [e] at h; simp at h) (by omega)
  · have h1 : ¬ ((q : Int) < l.length) := by omega
    simp [hx.lenA, hlen, h1]
    exact iins_end hx hl v hP q hq
theorem iins_loop {l : List Int} {x : AV} (hx : RowsA x (intRows l)) (hl : l.length < 2 ^ 40) (v : Int) {Post : AV → Prop} (hP : ∀ r m, RowsA r (intRows m) → m ≠ [] → m.length ≤ l.length + 1 → Post r) :
    ∀ (j q : Nat), q + j = l.length → P131_1 R 0 0 0 x (I64 v) (I64 q) ⟨[], []⟩ (QP Post) := by
  have hlen : (intRows l).length = l.length := intRows_len l
  intro j
  induction j with
  | zero =>
    intro q hq
    refine p131_1 ?_
    have h1 : ¬ ((q : Int) < l.length) := by omega
    simp [hx.lenA, hlen, h1]
    exact iins_mid hx hl v hP q (by omega)
  | succ j ih =>
    intro q hq
    refine p131_1 ?_
    have h1 : ((q : Int) < l.length) := by omega
    obtain ⟨t, ht⟩ : ∃ t, l[q]? = some t := ⟨_, List.getElem?_eq_getElem (by omega)⟩
    simp [hx.lenA, hlen, h1]
    refine wIdx_rows hx (row := [.sc (.int .i64 t)]) (by omega) (by simpa using intRows_get ht) rfl (by omega) ?_
    simp
    refine ⟨fun _ => ?_, fun _ => iins_mid hx hl v hP q (by omega)⟩
    refine p131_2 ?_
    simp only [wInt]
    refine ⟨⟨trivial, trivial⟩, wAri_fit (by omega) (by omega) ?_⟩
    have := ih (q + 1) (by omega)
    simpa using this
theorem insertInt_spec {l : List Int} {x : AV} (hx : RowsA x (intRows l)) (hl : l.length < 2 ^ 40) (v : Int) : PureC (env R) 131 [x, I64 v] fun r => ∃ m, RowsA r (intRows m) ∧ m ≠ [] ∧ m.length ≤ l.length + 1 := by
  refine e131 (u0 := x) (u1 := I64 v) (by simp [hx.close]) (p131_0 ?_)
  exact iins_loop hx hl v (fun r m h1 h2 h3 => ⟨m, h1, h2, h3⟩) l.length 0 (by omega)
theorem free_loop {k i : Int} {n : List UInt8} {ts : List Ty} {a : AV} {u : Nat} (ha : RowsA a (rowsT ts)) (hl : sizeL ts < 2 ^ 39) (hu : u < 2 ^ 60)
    (ih : ∀ t ∈ ts, ∀ v, v ≤ u + 1 → ∀ (l : List Int) (y : AV), RowsA y (intRows l) → l.length + size t < 2 ^ 40 →
      PureC (env R) 115 [.agg ((rowT t).map .pv), I64 v, y] fun r => ∃ m, RowsA r (intRows m) ∧ (m = [] ↔ l = [] ∧ clos v t = true) ∧ m.length ≤ l.length + size t) {Post : AV → Prop} :
    ∀ (j q : Nat) (l : List Int) (y : AV), RowsA y (intRows l) → l.length + sizeL (ts.drop q) < 2 ^ 40 → q + j = ts.length →
      (∀ r m, RowsA r (intRows m) → (m = [] ↔ l = [] ∧ closL u k q (ts.drop q) = true) → m.length ≤ l.length + sizeL (ts.drop q) → Post r) →
      P115_2 R 0 0 0 (I64 u) y (.ptr 0 0) (I64 q) ⟨[[I64 k, SS n, I64 i, a]], []⟩ (QP Post) := by
  have h60 := sizeL_len ts
  intro j
  induction j with
  | zero =>
    intro q l y hy hc hi hP
    refine p115_2 ?_
    have h1 : ¬ ((q : Int) < ts.length) := by omega
    simp [ha.lenA, rowsT_len, h1]
    refine p115_4 ?_
    have h2 : ts.drop q = [] := List.drop_of_length_le (by omega)
    rw [h2] at hP
    exact ⟨y, hy.close _ _ _, hP y l hy (by simp [closL]) (by simp [sizeL])⟩
  | succ j ihj =>
    intro q l y hy hc hi hP
    refine p115_2 ?_
    have h1 : ((q : Int) < ts.length) := by omega
    obtain ⟨t, ht⟩ : ∃ t, ts[q]? = some t := ⟨_, List.getElem?_eq_getElem (by omega)⟩
    have hd := drop_cons ht
    rw [hd] at hP hc
    simp only [closL, sizeL] at hP hc
    simp [ha.lenA, rowsT_len, h1]
    refine p115_3 ?_
    simp
    refine wIdx_rows ha (row := rowT t) (by omega) (by simpa using rowsT_get ht) (rowT_len t) (by omega) ?_
    have hb := bnd_le k q
    have e3 := ih t (List.mem_of_getElem? ht) (u + bnd k q) (by omega) l y hy (by omega)
    have hrow := rowsT_get ht
    obtain ⟨k', n', x, es⟩ := t
    simp only [rowT, List.map_cons, List.map_nil] at e3 hrow
    simp [rowT]
    refine wCall_pure (rbinders_spec ha q) ?_
    rintro v rfl
    simp only [wInt]
    refine ⟨⟨trivial, trivial⟩, wAri_fit (by omega) (by omega) ?_⟩
    have ec : (u : Int) + (bnd k q : Int) = ((u + bnd k q : Nat) : Int) := by omega
    rw [ec]
    refine wCall_pure e3 ?_
    rintro v ⟨m, hm, hmi, hml⟩
    simp [eqA, eqA_rows ha, eqAL, eqP, eqPL, eqV_int, eqV_str, eqPLL_rows]
    refine ⟨wIdx_rows ha (by omega) (by simpa using hrow) (by simp) (by omega) (by simp [eqA, eqP, eqPL, eqV_int, eqV_str, eqPLL_rows]), p115_5 ?_⟩
    simp only [wInt]
    refine ⟨⟨trivial, trivial⟩, wAri_fit (by omega) (by omega) ?_⟩
    have := ihj (q + 1) m v hm (by omega) (by omega) (by
      intro r m' h1 h2 h3
      refine hP r m' h1 ?_ (by omega)
      rw [h2, hmi, Bool.and_eq_true]
      exact ⟨fun ⟨⟨a, b⟩, c⟩ => ⟨a, b, c⟩, fun ⟨a, b, c⟩ => ⟨⟨a, b⟩, c⟩⟩)
    simpa using this
mutual
theorem free_spec : ∀ (t : Ty), size t < 2 ^ 39 → ∀ (u : Nat), u + size t < 2 ^ 60 → ∀ (x : AV), TRep t x → ∀ (l : List Int) (y : AV), RowsA y (intRows l) → l.length + size t < 2 ^ 40 →
    PureC (env R) 115 [x, I64 u, y] fun r => ∃ m, RowsA r (intRows m) ∧ (m = [] ↔ l = [] ∧ clos u t = true) ∧ m.length ≤ l.length + size t
  | .mk k n i ts, h, u, hu, x, hx, l, y, hy, hl => by
    obtain ⟨a, rfl, ha⟩ := hx
    simp only [size] at h hu hl
    have ih := frees_spec ts (by omega) (u + 1) (by omega)
    suffices H : ∀ Post : AV → Prop, (∀ r m, RowsA r (intRows m) → (m = [] ↔ l = [] ∧ clos u (.mk k n i ts) = true) → m.length ≤ l.length + size (.mk k n i ts) → Post r) → P115_0 R 0 0 0 (.agg [I64 k, SS n, I64 i, a]) (I64 u) y ⟨[], []⟩ (QP Post) from
      e115 (u0 := .agg [I64 k, SS n, I64 i, a]) (u1 := I64 u) (u2 := y) (by simp [ha.close, hy.close]) (H _ fun r m h1 h2 h3 => ⟨m, h1, h2, h3⟩)
    intro Post hPost
    refine p115_0 ?_
    simp only [clos, size] at hPost
    cases h1 : (k == 5) with
    | false =>
      rw [h1] at hPost
      simp [-beq_iff_eq, ha.ok, h1]
      refine p115_1 ?_
      exact free_loop ha (by omega) (by omega) ih ts.length 0 l y hy (by simpa using by omega) (by omega) (fun r m a b c => hPost r m a (by simpa using b) (by simp at c; omega))
    | true =>
      rw [h1] at hPost
      cases h2 : decide ((u : Int) ≤ i) with
      | true =>
        rw [h2] at hPost
        simp [-beq_iff_eq, -decide_eq_true_eq, ha.ok, h1, h2, wAri]
        refine wCall_pure (insertInt_spec hy (by omega) _) ?_
        rintro v ⟨m, hm, hne, hml⟩
        refine p115_1 ?_
        refine free_loop ha (by omega) (by omega) ih ts.length 0 m v hm (by simpa using by omega) (by omega) (fun r m' a b c => hPost r m' a ?_ (by simp at c; omega))
        rw [b]
        simp [hne]
      | false =>
        rw [h2] at hPost
        simp [-beq_iff_eq, -decide_eq_false_iff_not, ha.ok, h1, h2]
        refine p115_1 ?_
        exact free_loop ha (by omega) (by omega) ih ts.length 0 l y hy (by simpa using by omega) (by omega) (fun r m a b c => hPost r m a (by simpa using b) (by simp at c; omega))
theorem frees_spec : ∀ (l : List Ty), sizeL l < 2 ^ 39 → ∀ (w : Nat), w + sizeL l < 2 ^ 60 → ∀ t ∈ l, ∀ v, v ≤ w → ∀ (z : List Int) (y : AV), RowsA y (intRows z) → z.length + size t < 2 ^ 40 →
      PureC (env R) 115 [.agg ((rowT t).map .pv), I64 v, y] fun r => ∃ m, RowsA r (intRows m) ∧ (m = [] ↔ z = [] ∧ clos v t = true) ∧ m.length ≤ z.length + size t
  | [], _, _, _, _, h => by cases h
  | e :: l, ho, w, hw, a, h => by
    simp only [sizeL] at ho hw
    rcases List.mem_cons.1 h with h' | h'
    · rw [h']
      exact fun v hv z y hy hz => free_spec e (by omega) v (by omega) _ (TRep.of_row e) z y hy hz
    · exact frees_spec l (by omega) w (by omega) a h'
end
theorem termClosed_spec {t : Ty} (h : size t < 2 ^ 38) {x : AV} (hx : TRep t x) : PureC (env R) 70 [x] fun r => r = BB (clos 0 t) := by
  obtain ⟨k, n, i, ts⟩ := t
  obtain ⟨a, rfl, ha⟩ := hx
  refine e70 (u0 := .agg [I64 k, SS n, I64 i, a]) (by simp [ha.close]) (p70_0 ?_)
  simp [ha.ok]
  have e96' : PureC (env R) 96 [.agg [I64 k, SS n, I64 i, a]] fun r => ∃ m, RowsA r (intRows m) ∧ (m = [] ↔ clos 0 (.mk k n i ts) = true) := by
    refine e96 (u0 := .agg [I64 k, SS n, I64 i, a]) (by simp [ha.close]) (p96_0 ?_)
    simp [ha.ok]
    refine wCall_pure (free_spec (.mk k n i ts) (by omega) 0 (by omega) _ ⟨a, rfl, ha⟩ [] (.capped []) (.capped []) (by simpa using by omega)) ?_
    rintro v ⟨m, hm, hmi, _⟩
    exact ⟨v, hm.close _ _ _, m, hm, by simpa using hmi⟩
  refine wCall_pure e96' ?_
  rintro v ⟨m, hm, hmi⟩
  simp [QP, QI, hm.lenA, intRows_len]
  cases hc : clos 0 (.mk k n i ts) with
  | true =>
    have := hmi.2 hc
    simp [this]
  | false =>
    have : m ≠ [] := fun e => by rw [hmi.1 e] at hc; simp at hc
    cases m with
    | nil => exact absurd rfl this
    | cons z m =>
      simp
      omega
end
end Go.Proofs.YtmipbilokjkjiaaGreatDoor
/-
  Terms: plain ones.
-/
namespace Go.Proofs.YtmipbilokjkjiaaGreatDoor
open Go.Tel
attribute [local simp] wNew wBox wBoxZ markT wCond wBuild fillS wO setCells wSt wLd wPart LFE wFad alive wInt wStr wGK wGd wPick wExt wLen wSlen wNot wNil okI ceI okB ceB okS ceS okL ceL okC ceC okO ceO okP ceP okG ceG okE ceE okR ceR okF ceF okX ceX okM ceM okN ceN okNf ceNf okNi ceNi ceA roL roC roO leL leC leO tpP tpC tpO clP clC clO clF clA clT clN clL nbP nbC nbO nbN nbL toPVs
mutual
def plain : Ty → Bool
  | .mk k n i ts => k == 5 || clos 0 (.mk k n i ts) || (k == 2 && plainL ts)
def plainL : List Ty → Bool
  | [] => true
  | t :: l => plain t && plainL l
end
section
variable {R : Nat → Option (List PV)}
theorem idx_loop {f : FuncId} {g : Ty → Bool} {ts : List Ty} {y : AV} (hy : RowsA y (rowsT ts)) (hl : sizeL ts < 2 ^ 60) (hf : ∀ t ∈ ts, PureC (env R) f [.agg ((rowT t).map .pv)] fun r => r = BB (g t)) {Post : AV → Prop} :
    ∀ (j q : Nat), q + j = ts.length → (∀ i : Int, decide (0 ≤ i) = (ts.drop q).any g → Post (I64 i)) → P103_1 R 0 0 0 y (.func (.func f) [] []) (I64 ts.length) (I64 q) ⟨[], []⟩ (QP Post) := by
  have h60 := sizeL_len ts
  intro j
  induction j with
  | zero =>
    intro q hi hP
    refine p103_1 ?_
    have h1 : ¬ ((q : Int) < ts.length) := by omega
    simp [h1]
    refine p103_3 ?_
    have h2 : ts.drop q = [] := List.drop_of_length_le (by omega)
    rw [h2] at hP
    have := hP (-1) (by simp)
    simpa [QP, QI] using this
  | succ j ihj =>
    intro q hi hP
    refine p103_1 ?_
    have h1 : ((q : Int) < ts.length) := by omega
    obtain ⟨t, ht⟩ : ∃ t, ts[q]? = some t := ⟨_, List.getElem?_eq_getElem (by omega)⟩
    have hd := drop_cons ht
    rw [hd] at hP
    simp [h1]
    refine p103_2 ?_
    refine wIdx_rows hy (row := rowT t) (by omega) (by simpa using rowsT_get ht) (rowT_len t) (by omega) ?_
    have e3 := hf t (List.mem_of_getElem? ht)
    cases hg : g t with
    | true =>
      rw [hg] at e3
      have := hP q (by simp [hg])
      obtain ⟨k', n', x, es⟩ := t
      simp only [rowT, List.map_cons, List.map_nil] at e3
      simp [rowT]
      refine wCall_pure e3 ?_
      rintro v rfl
      simpa [QP, QI] using this
    | false =>
      rw [hg] at e3
      simp only [List.any_cons, hg, Bool.false_or] at hP
      obtain ⟨k', n', x, es⟩ := t
      simp only [rowT, List.map_cons, List.map_nil] at e3
      simp [rowT]
      refine wCall_pure e3 ?_
      rintro v rfl
      simp
      refine p103_4 ?_
      simp only [wInt]
      refine ⟨⟨trivial, trivial⟩, wAri_fit (by omega) (by omega) ?_⟩
      have := ihj (q + 1) (by omega) hP
      simpa using this
theorem contains_spec {f : FuncId} {g : Ty → Bool} {ts : List Ty} {y : AV} (hy : RowsA y (rowsT ts)) (hl : sizeL ts < 2 ^ 60) (hf : ∀ t ∈ ts, PureC (env R) f [.agg ((rowT t).map .pv)] fun r => r = BB (g t)) :
    PureC (env R) 79 [y, .func (.func f) [] []] fun r => r = BB (ts.any g) := by
  have hi : PureC (env R) 103 [y, .func (.func f) [] []] fun r => ∃ i : Int, r = I64 i ∧ decide (0 ≤ i) = ts.any g := by
    refine e103 (by simp [noIdL, hy.noId, noId]) (p103_0 ?_)
    simp [hy.lenA, rowsT_len]
    exact idx_loop hy hl hf ts.length 0 (by omega) (fun i h => ⟨i, rfl, by simpa using h⟩)
  refine e79 (by simp [noIdL, hy.noId, noId]) (p79_0 ?_)
  refine wCall_pure hi ?_
  rintro v ⟨i, rfl, h⟩
  simp only [wInt]
  refine ⟨⟨trivial, trivial⟩, _, clP, ?_⟩
  rw [← h]
mutual
theorem isPlain_spec : ∀ (t : Ty), size t < 2 ^ 38 → ∀ (x : AV), TRep t x → PureC (env R) 120 [x] fun r => r = BB (plain t)
  | .mk k n i ts, h, x, hx => by
    obtain ⟨a, rfl, ha⟩ := hx
    have hs := h
    simp only [size] at h
    have ih := plainArgs_spec k n i ts (by omega) a ha
    have hc : PureC (env R) 102 [.agg [I64 k, SS n, I64 i, a], I64 0] fun r => r = BB (clos 0 (.mk k n i ts)) := closed_spec (.mk k n i ts) (by omega) 0 (by omega) _ ⟨a, rfl, ha⟩
    refine e120 (u0 := .agg [I64 k, SS n, I64 i, a]) (by simp [ha.close]) (p120_0 ?_)
    cases h1 : (k == 5) with
    | true => simp [-beq_iff_eq, QP, QI, ha.ok, h1, plain]
    | false =>
      simp [-beq_iff_eq, ha.ok, h1]
      refine wCall_pure hc ?_
      rintro v rfl
      cases h2 : clos 0 (.mk k n i ts) with
      | true => simp [-beq_iff_eq, QP, QI, h2, plain]
      | false =>
        cases h3 : (k == 2) with
        | false => simp [-beq_iff_eq, QP, QI, h1, h2, h3, plain]
        | true =>
          have e2 : k = 2 := by simpa using h3
          subst e2
          simp
          refine wCall_pure ih ?_
          rintro v rfl
          cases h4 : plainL ts <;> simp [QP, QI, h2, h4, plain]
theorem plainArgs_spec (k : Int) (n : List UInt8) (i : Int) : ∀ (ts : List Ty), sizeL ts < 2 ^ 38 → ∀ (a : AV), RowsA a (rowsT ts) → PureC (env R) 101 [.agg [I64 k, SS n, I64 i, a]] fun r => r = BB (plainL ts)
  | ts, h, a, ha => by
    have ih := plains_spec ts h
    refine e101 (u0 := .agg [I64 k, SS n, I64 i, a]) (by simp [ha.close]) (p101_0 ?_)
    simp [ha.ok]
    have hf : ∀ t ∈ ts, PureC (env R) 119 [.agg ((rowT t).map .pv)] fun r => r = BB (!plain t) := by
      intro t ht
      have e := ih t ht
      refine e119 (by cases t; simp [rowT, noIdL, noId]) (p119_0 ?_)
      obtain ⟨k', n', x, es⟩ := t
      simp only [rowT, List.map_cons, List.map_nil] at e
      simp [rowT]
      refine wCall_pure e ?_
      rintro v rfl
      simp [QP, QI]
    refine wCall_pure (contains_spec ha (by omega) hf) ?_
    rintro v rfl
    have : (!ts.any fun t => !plain t) = plainL ts := by
      clear ih hf ha h
      induction ts with
      | nil => rfl
      | cons t l ih => simp [plainL, ← ih]
    simp [QP, QI, ← this]
theorem plains_spec : ∀ (l : List Ty), sizeL l < 2 ^ 38 → ∀ t ∈ l, PureC (env R) 120 [.agg ((rowT t).map .pv)] fun r => r = BB (plain t)
  | [], _, _, h => by cases h
  | e :: l, ho, a, h => by
    simp only [sizeL] at ho
    rcases List.mem_cons.1 h with h' | h'
    · rw [h']
      exact isPlain_spec e (by omega) _ (TRep.of_row e)
    · exact plains_spec l (by omega) a h'
end
theorem rplain_loop {k i : Int} {n : List UInt8} {ts : List Ty} {a : AV} (ha : RowsA a (rowsT ts)) (hl : sizeL ts < 2 ^ 38) (ih : ∀ t ∈ ts, PureC (env R) 69 [.agg ((rowT t).map .pv)] fun r => r = BB (plain t)) {Post : AV → Prop} :
    ∀ (j q : Nat), q + j = ts.length → Post (BB (k == 2 && plainL (ts.drop q))) → P69_2 R 0 0 0 (.ptr 0 0) (I64 q) ⟨[[I64 k, SS n, I64 i, a]], []⟩ (QP Post) := by
  have h60 := sizeL_len ts
  intro j
  induction j with
  | zero =>
    intro q hi hP
    refine p69_2 ?_
    have h1 : ¬ ((q : Int) < ts.length) := by omega
    simp [ha.lenA, rowsT_len, h1]
    refine p69_4 ?_
    have h2 : ts.drop q = [] := List.drop_of_length_le (by omega)
    rw [h2] at hP
    simpa [QP, QI, plainL] using hP
  | succ j ihj =>
    intro q hi hP
    refine p69_2 ?_
    have h1 : ((q : Int) < ts.length) := by omega
    obtain ⟨t, ht⟩ : ∃ t, ts[q]? = some t := ⟨_, List.getElem?_eq_getElem (by omega)⟩
    have hd := drop_cons ht
    rw [hd] at hP
    simp only [plainL] at hP
    simp [ha.lenA, rowsT_len, h1]
    refine p69_3 ?_
    simp
    refine wIdx_rows ha (row := rowT t) (by omega) (by simpa using rowsT_get ht) (rowT_len t) (by omega) ?_
    have e3 := ih t (List.mem_of_getElem? ht)
    have hr := rowT_len t
    cases hg : plain t with
    | true =>
      rw [hg] at e3 hP
      obtain ⟨k', n', x, es⟩ := t
      simp only [rowT, List.map_cons, List.map_nil] at e3
      simp [rowT]
      refine wCall_pure e3 ?_
      rintro v rfl
      simp
      refine p69_5 ?_
      simp only [wInt]
      refine ⟨⟨trivial, trivial⟩, wAri_fit (by omega) (by omega) ?_⟩
      have := ihj (q + 1) (by omega) (by simpa using hP)
      simpa using this
    | false =>
      rw [hg] at e3 hP
      obtain ⟨k', n', x, es⟩ := t
      simp only [rowT, List.map_cons, List.map_nil] at e3
      simp [rowT]
      refine wCall_pure e3 ?_
      rintro v rfl
      simpa [QP, QI] using hP
mutual
theorem rplain_spec : ∀ (t : Ty), size t < 2 ^ 38 → ∀ (x : AV), TRep t x → PureC (env R) 69 [x] fun r => r = BB (plain t)
  | .mk k n i ts, h, x, hx => by
    obtain ⟨a, rfl, ha⟩ := hx
    have hs := h
    simp only [size] at h
    have ih := rplains_spec ts (by omega)
    have hc : PureC (env R) 70 [.agg [I64 k, SS n, I64 i, a]] fun r => r = BB (clos 0 (.mk k n i ts)) := termClosed_spec hs ⟨a, rfl, ha⟩
    suffices H : ∀ Post : AV → Prop, Post (BB (plain (.mk k n i ts))) → P69_0 R 0 0 0 (.agg [I64 k, SS n, I64 i, a]) ⟨[], []⟩ (QP Post) from
      e69 (u0 := .agg [I64 k, SS n, I64 i, a]) (by simp [ha.close]) (H _ rfl)
    intro Post hPost
    refine p69_0 ?_
    simp only [plain] at hPost
    cases h1 : (k == 5) with
    | true =>
      rw [h1] at hPost
      simpa [-beq_iff_eq, QP, QI, ha.ok, h1] using hPost
    | false =>
      rw [h1] at hPost
      simp [-beq_iff_eq, ha.ok, h1]
      refine wCall_pure hc ?_
      rintro v rfl
      cases h2 : clos 0 (.mk k n i ts) with
      | true =>
        rw [h2] at hPost
        simpa [-beq_iff_eq, QP, QI] using hPost
      | false =>
        rw [h2] at hPost
        simp [-beq_iff_eq]
        refine p69_1 ?_
        exact rplain_loop ha (by omega) ih ts.length 0 (by omega) (by simpa using hPost)
theorem rplains_spec : ∀ (l : List Ty), sizeL l < 2 ^ 38 → ∀ t ∈ l, PureC (env R) 69 [.agg ((rowT t).map .pv)] fun r => r = BB (plain t)
  | [], _, _, h => by cases h
  | e :: l, ho, a, h => by
    simp only [sizeL] at ho
    rcases List.mem_cons.1 h with h' | h'
    · rw [h']
      exact rplain_spec e (by omega) _ (TRep.of_row e)
    · exact rplains_spec l (by omega) a h'
end
end
end Go.Proofs.YtmipbilokjkjiaaGreatDoor
/-
  Names.
-/
namespace Go.Proofs.YtmipbilokjkjiaaGreatDoor
open Go.Tel
attribute [local simp] wNew wBox wBoxZ markT wCond wBuild fillS wO setCells wSt wLd wPart LFE wFad alive wInt wStr wGK wGd wPick wExt wLen wSlen wNot wNil okI ceI okB ceB okS ceS okL ceL okC ceC okO ceO okP ceP okG ceG okE ceE okR ceR okF ceF okX ceX okM ceM okN ceN okNf ceNf okNi ceNi ceA roL roC roO leL leC leO tpP tpC tpO clP clC clO clF clA clT clN clL nbP nbC nbO nbN nbL toPVs
def isLet (n : Int) : Bool := (decide (97 ≤ n) && decide (n ≤ 122)) || (decide (65 ≤ n) && decide (n ≤ 90))
def isDig (n : Int) : Bool := decide (48 ≤ n) && decide (n ≤ 57)
def isWB (n : Int) : Bool := isLet n || isDig n || n == 95 || n == 45
abbrev BY (n : Int) : AV := .pv (.sc (.int .u8 n))
/-- A word that may be a name. -/
def isId (l : List UInt8) : Bool := l != [] && decide (l.length ≤ 24) && (match l with | [] => false | c :: _ => isLet c.toNat) && l.all fun c => !((c.toNat : Int) == 45) && isWB c.toNat
def resv : List (List UInt8) := [[65, 110, 121], [78, 101, 118, 101, 114], [116, 117, 112, 108, 101], [117, 110, 105, 111, 110], [101, 120, 105, 115, 116, 115]]
theorem SS_beq (a b : List UInt8) : ((⟨a.toArray⟩ : ByteArray).data.toList == (⟨b.toArray⟩ : ByteArray).data.toList) = (a == b) := rfl
section
variable {R : Nat → Option (List PV)}
theorem letter_spec (n : Int) : PureC (env R) 112 [BY n] fun r => r = BB (isLet n) := by
  refine e112 rfl (p112_0 ?_)
  by_cases h1 : 97 ≤ n <;> by_cases h2 : n ≤ 122 <;> by_cases h3 : 65 ≤ n <;> by_cases h4 : n ≤ 90 <;> simp [QP, QI, isLet, h1, h2, h3, h4]
theorem rletter_spec (n : Int) : PureC (env R) 94 [BY n] fun r => r = BB (isLet n) := by
  refine e94 rfl (p94_0 ?_)
  by_cases h1 : 97 ≤ n <;> by_cases h2 : n ≤ 122 <;> by_cases h3 : 65 ≤ n <;> by_cases h4 : n ≤ 90 <;> simp [QP, QI, isLet, h1, h2, h3, h4]
theorem digit_spec (n : Int) : PureC (env R) 113 [BY n] fun r => r = BB (isDig n) := by
  refine e113 rfl (p113_0 ?_)
  by_cases h1 : 48 ≤ n <;> by_cases h2 : n ≤ 57 <;> simp [QP, QI, isDig, h1, h2]
theorem rdigit_spec (n : Int) : PureC (env R) 114 [BY n] fun r => r = BB (isDig n) := by
  refine e114 rfl (p114_0 ?_)
  by_cases h1 : 48 ≤ n <;> by_cases h2 : n ≤ 57 <;> simp [QP, QI, isDig, h1, h2]
theorem wordByte_spec (n : Int) : PureC (env R) 92 [BY n] fun r => r = BB (isWB n) := by
  refine e92 rfl (p92_0 ?_)
  refine wCall_pure (letter_spec n) ?_
  rintro v rfl
  cases h1 : isLet n with
  | true => simp [QP, QI, isWB, h1]
  | false =>
    simp
    refine wCall_pure (digit_spec n) ?_
    rintro v rfl
    cases h2 : isDig n with
    | true => simp [QP, QI, isWB, h2]
    | false => cases h3 : (n == 95) <;> cases h4 : (n == 45) <;> simp [-beq_iff_eq, -beq_eq_false_iff_ne, QP, QI, isWB, h1, h2, h3, h4]
theorem rwordByte_spec (n : Int) : PureC (env R) 95 [BY n] fun r => r = BB (isWB n) := by
  refine e95 rfl (p95_0 ?_)
  refine wCall_pure (rletter_spec n) ?_
  rintro v rfl
  cases h1 : isLet n with
  | true => simp [QP, QI, isWB, h1]
  | false =>
    simp
    refine wCall_pure (rdigit_spec n) ?_
    rintro v rfl
    cases h2 : isDig n with
    | true => simp [QP, QI, isWB, h2]
    | false => cases h3 : (n == 95) <;> cases h4 : (n == 45) <;> simp [-beq_iff_eq, -beq_eq_false_iff_ne, QP, QI, isWB, h1, h2, h3, h4]
theorem identByte_spec (n : Int) : PureC (env R) 118 [BY n] fun r => r = BB (!(n == 45) && isWB n) := by
  refine e118 rfl (p118_0 ?_)
  cases h : (n == 45) with
  | true => simp [-beq_iff_eq, -beq_eq_false_iff_ne, QP, QI, h, bne]
  | false =>
    simp [-beq_iff_eq, -beq_eq_false_iff_ne, h, bne]
    refine wCall_pure (wordByte_spec n) ?_
    rintro v rfl
    simp [-beq_iff_eq, -beq_eq_false_iff_ne, QP, QI]
theorem every_loop {f : FuncId} {g : Int → Bool} {l : List UInt8} (hl : l.length < 2 ^ 60) (hf : ∀ n : Int, PureC (env R) f [BY n] fun r => r = BB (g n)) {Post : AV → Prop} :
    ∀ (j q : Nat), q + j = l.length → Post (BB ((l.drop q).all fun c => g c.toNat)) → P117_1 R 0 0 0 (SS l) (.func (.func f) [] []) (I64 q) ⟨[], []⟩ (QP Post) := by
  intro j
  induction j with
  | zero =>
    intro q hi hP
    refine p117_1 ?_
    have h1 : ¬ ((q : Int) < l.length) := by omega
    simp [h1]
    refine p117_3 ?_
    have h2 : l.drop q = [] := List.drop_of_length_le (by omega)
    rw [h2] at hP
    simpa [QP, QI] using hP
  | succ j ihj =>
    intro q hi hP
    refine p117_1 ?_
    have h1 : ((q : Int) < l.length) := by omega
    obtain ⟨c, hc⟩ : ∃ c, l[q]? = some c := ⟨_, List.getElem?_eq_getElem (by omega)⟩
    rw [drop_cons hc] at hP
    simp [h1]
    refine p117_2 ?_
    refine ⟨by omega, c, by simpa using hc, ?_⟩
    refine wCall_pure (hf c.toNat) ?_
    rintro v rfl
    cases hg : g c.toNat with
    | true =>
      rw [List.all_cons, hg] at hP
      simp
      refine p117_4 ?_
      simp only [wInt]
      refine ⟨⟨trivial, trivial⟩, wAri_fit (by omega) (by omega) ?_⟩
      have := ihj (q + 1) (by omega) (by simpa using hP)
      simpa using this
    | false =>
      rw [List.all_cons, hg] at hP
      simpa [QP, QI] using hP
theorem isIdent_spec {l : List UInt8} (hl : l.length < 2 ^ 60) : PureC (env R) 100 [SS l] fun r => r = BB (isId l) := by
  have ev : PureC (env R) 117 [SS l, .func (.func 118) [] []] fun r => r = BB (l.all fun c => !((c.toNat : Int) == 45) && isWB c.toNat) := by
    refine e117 (u0 := SS l) (u1 := .func (.func 118) [] []) (by simp) (p117_0 ?_)
    exact every_loop hl identByte_spec l.length 0 (by omega) (by simp)
  refine e100 (u0 := SS l) (by simp) (p100_0 ?_)
  cases l with
  | nil => simp [QP, QI, isId]
  | cons c l =>
    by_cases h1 : (c :: l).length ≤ 24
    · have h1' : (((c :: l).length : Nat) : Int) ≤ 24 := by omega
      have h1'' : ((l.length : Int) + 1 ≤ 24) := by simpa using h1'
      simp [h1'', wSidx]
      refine wCall_pure (letter_spec c.toNat) ?_
      rintro v rfl
      cases h2 : isLet c.toNat with
      | false => simp [QP, QI, isId, h2]
      | true =>
        simp
        refine wCall_pure ev ?_
        rintro v rfl
        have : l.length + 1 ≤ 24 := by simpa using h1
        simp [QP, QI, isId, h2, this]
    · have h1'' : ¬ ((l.length : Int) + 1 ≤ 24) := by simp at h1; omega
      have : ¬ (l.length + 1 ≤ 24) := by simpa using h1
      simp [QP, QI, h1'', isId, this]
theorem rident_loop {l : List UInt8} (hl : l.length < 2 ^ 60) {Post : AV → Prop} :
    ∀ (j q : Nat), q + j = l.length → Post (BB ((l.drop q).all fun c => !((c.toNat : Int) == 45) && isWB c.toNat)) → P67_2 R 0 0 0 (SS l) (I64 q) ⟨[], []⟩ (QP Post) := by
  intro j
  induction j with
  | zero =>
    intro q hi hP
    refine p67_2 ?_
    have h1 : ¬ ((q : Int) < l.length) := by omega
    simp [h1]
    refine p67_4 ?_
    have h2 : l.drop q = [] := List.drop_of_length_le (by omega)
    rw [h2] at hP
    simpa [QP, QI] using hP
  | succ j ihj =>
    intro q hi hP
    refine p67_2 ?_
    have h1 : ((q : Int) < l.length) := by omega
    obtain ⟨c, hc⟩ : ∃ c, l[q]? = some c := ⟨_, List.getElem?_eq_getElem (by omega)⟩
    rw [drop_cons hc] at hP
    simp [h1]
    refine p67_3 ?_
    refine ⟨by omega, c, by simpa using hc, ?_⟩
    refine wCall_pure (rwordByte_spec c.toNat) ?_
    rintro v rfl
    cases hg : isWB c.toNat with
    | false =>
      rw [List.all_cons, hg, Bool.and_false, Bool.false_and] at hP
      simpa [QP, QI] using hP
    | true =>
      rw [List.all_cons, hg, Bool.and_true] at hP
      simp
      refine ⟨by omega, c, by simpa using hc, ?_⟩
      by_cases h45 : ((c.toNat : Int) = 45)
      · have h45' : ((c.toNat : Int) == 45) = true := by simpa using h45
        rw [h45', Bool.not_true, Bool.false_and] at hP
        simp [QP, QI]
        exact ⟨fun _ => hP, fun h => absurd h45 h⟩
      · have h45' : ((c.toNat : Int) == 45) = false := by simpa using h45
        rw [h45', Bool.not_false, Bool.true_and] at hP
        simp
        refine ⟨fun h => absurd h h45, fun _ => p67_5 ?_⟩
        simp only [wInt]
        refine ⟨⟨trivial, trivial⟩, wAri_fit (by omega) (by omega) ?_⟩
        have := ihj (q + 1) (by omega) (by simpa using hP)
        simpa using this
theorem rident_spec {l : List UInt8} (hl : l.length < 2 ^ 60) : PureC (env R) 67 [SS l] fun r => r = BB (isId l) := by
  refine e67 (u0 := SS l) (by simp) (p67_0 ?_)
  cases l with
  | nil => simp [QP, QI, isId]
  | cons c l =>
    have h0 : ¬ ((l.length : Int) + 1 < 1) := by omega
    by_cases h1 : l.length + 1 ≤ 24
    · have h1'' : ¬ (24 < (l.length : Int) + 1) := by omega
      simp [h0, h1'', wSidx]
      refine wCall_pure (rletter_spec c.toNat) ?_
      rintro v rfl
      cases h2 : isLet c.toNat with
      | false => simp [QP, QI, isId, h2]
      | true =>
        simp
        refine p67_1 ?_
        refine rident_loop hl (c :: l).length 0 (by omega) ?_
        simp [isId, h2, h1]
    · have h1'' : (24 < (l.length : Int) + 1) := by omega
      simp [QP, QI, h0, h1'', isId, h1]
theorem keyword_spec {l : List UInt8} : PureC (env R) 68 [SS l] fun r => r = BB (resv.contains l) := by
  refine e68 (u0 := SS l) (by simp) (p68_0 ?_)
  by_cases h1 : l = [65, 110, 121]
  · subst h1; simp [QP, QI, resv]
  by_cases h2 : l = [78, 101, 118, 101, 114]
  · subst h2; simp [QP, QI, resv]
  by_cases h3 : l = [116, 117, 112, 108, 101]
  · subst h3; simp [QP, QI, resv]
  by_cases h4 : l = [117, 110, 105, 111, 110]
  · subst h4; simp [QP, QI, resv]
  by_cases h5 : l = [101, 120, 105, 115, 116, 115]
  · subst h5; simp [QP, QI, resv]
  have b1 : (l == [65, 110, 121]) = false := by simpa using h1
  have b2 : (l == [78, 101, 118, 101, 114]) = false := by simpa using h2
  have b3 : (l == [116, 117, 112, 108, 101]) = false := by simpa using h3
  have b4 : (l == [117, 110, 105, 111, 110]) = false := by simpa using h4
  have b5 : (l == [101, 120, 105, 115, 116, 115]) = false := by simpa using h5
  have b : resv.contains l = false := by simp [resv, h1, h2, h3, h4, h5]
  simp [-beq_iff_eq, -beq_eq_false_iff_ne, -List.contains_eq_mem, QP, QI, b, b1, b2, b3, b4, b5]
/-! A list of words -/
def strRows (l : List (List UInt8)) : List (List PV) := l.map fun s => [.sc (.string ⟨s.toArray⟩)]
theorem strRows_len (l : List (List UInt8)) : (strRows l).length = l.length := by simp [strRows]
theorem strRows_get {l : List (List UInt8)} {i : Nat} {n : List UInt8} (h : l[i]? = some n) : (strRows l)[i]? = some [.sc (.string ⟨n.toArray⟩)] := by simp [strRows, h]
theorem index_loop {l : List (List UInt8)} {w : List UInt8} {y : AV} (hy : RowsA y (strRows l)) (hl : l.length < 2 ^ 60) {Post : AV → Prop} :
    ∀ (j q : Nat), q + j = l.length → (∀ i : Int, decide (0 ≤ i) = (l.drop q).contains w → Post (I64 i)) → P108_1 R 0 0 0 y (SS w) (I64 l.length) (I64 q) ⟨[], []⟩ (QP Post) := by
  intro j
  induction j with
  | zero =>
    intro q hi hP
    refine p108_1 ?_
    have h1 : ¬ ((q : Int) < l.length) := by omega
    simp [h1]
    refine p108_3 ?_
    have h2 : l.drop q = [] := List.drop_of_length_le (by omega)
    rw [h2] at hP
    have := hP (-1) (by simp)
    simpa [QP, QI] using this
  | succ j ihj =>
    intro q hi hP
    refine p108_1 ?_
    have h1 : ((q : Int) < l.length) := by omega
    obtain ⟨t, ht⟩ : ∃ t, l[q]? = some t := ⟨_, List.getElem?_eq_getElem (by omega)⟩
    rw [drop_cons ht] at hP
    simp [h1]
    refine p108_2 ?_
    refine wIdx_rows hy (row := [.sc (.string ⟨t.toArray⟩)]) (by omega) (by simpa using strRows_get ht) rfl (by omega) ?_
    by_cases hw : w = t
    · subst hw
      have := hP q (by simp)
      simpa [QP, QI] using this
    · simp [hw]
      refine p108_4 ?_
      simp only [wInt]
      refine ⟨⟨trivial, trivial⟩, wAri_fit (by omega) (by omega) ?_⟩
      have := ihj (q + 1) (by omega) (fun i h => hP i (by rw [h]; simp [hw]))
      simpa using this
theorem containsS_spec {l : List (List UInt8)} {w : List UInt8} {y : AV} (hy : RowsA y (strRows l)) (hl : l.length < 2 ^ 60) : PureC (env R) 84 [y, SS w] fun r => r = BB (l.contains w) := by
  have hi : PureC (env R) 108 [y, SS w] fun r => ∃ i : Int, r = I64 i ∧ decide (0 ≤ i) = l.contains w := by
    refine e108 (u0 := y) (u1 := SS w) (by simp [hy.close]) (p108_0 ?_)
    simp [hy.lenA, strRows_len]
    exact index_loop hy hl l.length 0 (by omega) (fun i h => ⟨i, rfl, by simpa using h⟩)
  refine e84 (u0 := y) (u1 := SS w) (by simp [hy.close]) (p84_0 ?_)
  refine wCall_pure hi ?_
  rintro v ⟨i, rfl, h⟩
  simp only [wInt]
  refine ⟨⟨trivial, trivial⟩, _, clP, ?_⟩
  rw [← h]
end
end Go.Proofs.YtmipbilokjkjiaaGreatDoor
