/-
  Terms ts plain data; their size and depth.
-/
import Derived.Test.YtmipbilokjkjiaaGreatDoorW1
import Derived.Test.YtmipbilokjkjiaaGreatDoorWpH
set_option linter.unusedSimpArgs false
set_option linter.unusedVariables false
namespace Go.Proofs.YtmipbilokjkjiaaGreatDoor
open Go.Tel
attribute [local simp] wNew wBox wBoxZ markT wCond wBuild fillS wO setCells wSt wLd wPart LFE wFad alive wInt wStr wGK wGd wPick wExt wLen wSlen wNot wNil okI ceI okB ceB okS ceS okL ceL okC ceC okO ceO okP ceP okG ceG okE ceE okR ceR okF ceF okX ceX okM ceM okN ceN okNf ceNf okNi ceNi ceA roL roC roO leL leC leO tpP tpC tpO clP clC clO clF clA clT clN clL nbP nbC nbO nbN nbL toPVs g0 g1 xI xL xM xF xG xC lf Y4 Y5
inductive Ty where
  | mk (kind : Int) (name : List UInt8) (index : Int) (args : List Ty)
mutual
def rowT : Ty → List PV
  | .mk k n i ts => [.sc (.int .i64 k), .sc (.string ⟨n.toArray⟩), .sc (.int .i64 i), .list (rowsT ts)]
def rowsT : List Ty → List (List PV)
  | [] => []
  | v :: vs => rowT v :: rowsT vs
end
theorem rowsT_eq : ∀ l, rowsT l = l.map rowT
  | [] => by simp [rowsT]
  | v :: vs => by simp [rowsT, rowsT_eq vs]
theorem rowT_len (v : Ty) : (rowT v).length = 4 := by cases v; simp [rowT]
theorem rowsT_len (l : List Ty) : (rowsT l).length = l.length := by simp [rowsT_eq]
theorem rowsT_get {l : List Ty} {i : Nat} {a : Ty} (h : l[i]? = some a) : (rowsT l)[i]? = some (rowT a) := by simp [rowsT_eq, h]
def TRep (v : Ty) (x : AV) : Prop := match v with
  | .mk k n i ts => ∃ a, x = .agg [I64 k, SS n, I64 i, a] ∧ RowsA a (rowsT ts)
theorem TRep.of_row (v : Ty) : TRep v (.agg ((rowT v).map .pv)) := by
  cases v with
  | mk k n s es => exact ⟨_, by simp [rowT], .list _⟩
theorem drop_cons {α : Type} {l : List α} {i : Nat} {a : α} (h : l[i]? = some a) : l.drop i = a :: l.drop (i + 1) := by
  obtain ⟨h, e⟩ := aLs0014.1 h
  rw [← e, List.drop_eq_getElem_cons h]
mutual
def size : Ty → Nat
  | .mk _ _ _ ts => sizeL ts + 1
def sizeL : List Ty → Nat
  | [] => 0
  | a :: l => size a + sizeL l
end
mutual
def depth : Ty → Nat
  | .mk _ _ _ ts => depthL ts + 1
def depthL : List Ty → Nat
  | [] => 0
  | a :: l => max (depth a) (depthL l)
end
theorem size_pos (t : Ty) : 0 < size t := by cases t; simp [size]
theorem sizeL_len : ∀ l : List Ty, l.length ≤ sizeL l
  | [] => by simp
  | a :: l => by
    have := size_pos a
    have := sizeL_len l
    simp only [aLs0010, sizeL]
    omega
mutual
theorem depth_le : ∀ t : Ty, depth t ≤ size t
  | .mk _ _ _ ts => by
    have := depthL_le ts
    simp only [depth, size]; omega
theorem depthL_le : ∀ l : List Ty, depthL l ≤ sizeL l
  | [] => by simp [depthL]
  | a :: l => by
    have := depth_le a
    have := depthL_le l
    simp only [depthL, sizeL]; omega
end
theorem size_mem : ∀ {l : List Ty} {a : Ty}, a ∈ l → size a ≤ sizeL l
  | [], _, h => by cases h
  | b :: l, a, h => by
    simp only [sizeL]
    rcases aLs0006.1 h with rfl | h
    · omega
    · have := size_mem h; omega
section
variable {R : Nat → Option (List PV)}
theorem size_loop {ts : List Ty} {a : AV} (ha : RowsA a (rowsT ts)) (hl : sizeL ts < 2 ^ 60) (ih : ∀ t ∈ ts, PureC (env R) 52 [.agg ((rowT t).map .pv)] fun r => r = I64 (size t)) {Post : AV → Prop} :
    ∀ (j i c : Nat) (s : Sto), i + j = ts.length → c + sizeL (ts.drop i) < 2 ^ 61 → Post (I64 ((c + sizeL (ts.drop i) : Nat) : Int)) → P52_1 R 0 0 0 (I64 c) a (I64 ts.length) (I64 i) s (QP Post) := by
  have h60 := sizeL_len ts
  intro j
  induction j with
  | zero =>
    intro i c s hi hc hP
    refine p52_1 ?_
    have h1 : ¬ ((i : Int) < ts.length) := by omega
    simp [h1]
    refine p52_3 ?_
    have h2 : ts.drop i = [] := aLs0024 (by omega)
    rw [h2] at hP
    simpa [QP, QI, sizeL] using hP
  | succ j ihj =>
    intro i c s hi hc hP
    refine p52_1 ?_
    have h1 : ((i : Int) < ts.length) := by omega
    obtain ⟨t, ht⟩ : ∃ t, ts[i]? = some t := ⟨_, aLs0008 (by omega)⟩
    have hd := drop_cons ht
    rw [hd] at hP hc
    simp only [sizeL] at hP hc
    simp [h1]
    refine p52_2 ?_
    refine wIdx_rows ha (row := rowT t) (by omega) (by simpa using rowsT_get ht) (rowT_len t) (by omega) ?_
    have e3 := ih t (aLs0013 ht)
    have e4 : size t ≤ sizeL ts := size_mem (aLs0013 ht)
    obtain ⟨k, n, x, es⟩ := t
    simp only [rowT, aLs0018, aLs0026] at e3
    simp [rowT, get_app, get_app0, set_app, set_app0]
    refine wCall_pure e3 ?_
    rintro v rfl
    simp only [wInt, xI]
    refine ⟨⟨aLs0000, aLs0000⟩, wAri_fit (by omega) (by omega) (p52_4 ?_)⟩
    simp only [wInt, xI]
    refine ⟨⟨aLs0000, aLs0000⟩, wAri_fit (by omega) (by omega) ?_⟩
    have := ihj (i + 1) (c + size (.mk k n x es)) ⟨s.bs ++ [[I64 k, SS n, I64 x, .pv (.list (rowsT es))]], s.ts⟩ (by omega) (by omega) (by simpa [aLs0059] using hP)
    simpa using this
mutual
theorem size_spec : ∀ (t : Ty), size t < 2 ^ 60 → ∀ (x : AV), TRep t x → PureC (env R) 52 [x] fun r => r = I64 (size t)
  | .mk k n i ts, h, x, hx => by
    obtain ⟨a, rfl, ha⟩ := hx
    simp only [size] at h
    have ih := sizes_spec ts (by omega)
    refine e52 (u0 := .agg [I64 k, SS n, I64 i, a]) (by simp [ha.close]) (p52_0 ?_)
    simp [ha.ok, ha.lenA, rowsT_len]
    refine size_loop ha (by omega) ih ts.length 0 1 _ (by omega) (by simp; omega) ?_
    simp [size]
    omega
theorem sizes_spec : ∀ (l : List Ty), sizeL l < 2 ^ 60 → ∀ t ∈ l, PureC (env R) 52 [.agg ((rowT t).map .pv)] fun r => r = I64 (size t)
  | [], _, _, h => by cases h
  | e :: l, ho, a, h => by
    simp only [sizeL] at ho
    rcases aLs0006.1 h with h' | h'
    · rw [h']
      exact size_spec e (by omega) _ (TRep.of_row e)
    · exact sizes_spec l (by omega) a h'
end
end
section
variable {R : Nat → Option (List PV)}
theorem rsize_loop {k i : Int} {n : List UInt8} {ts : List Ty} {a : AV} (ha : RowsA a (rowsT ts)) (hl : sizeL ts < 2 ^ 60) (ih : ∀ t ∈ ts, PureC (env R) 40 [.agg ((rowT t).map .pv)] fun r => r = I64 (size t)) {Post : AV → Prop} :
    ∀ (j q c : Nat), q + j = ts.length → c + sizeL (ts.drop q) < 2 ^ 61 → Post (I64 ((c + sizeL (ts.drop q) : Nat) : Int)) → P40_1 R 0 0 0 (.ptr 0 0) (I64 c) (I64 q) ⟨[[I64 k, SS n, I64 i, a]], []⟩ (QP Post) := by
  have h60 := sizeL_len ts
  intro j
  induction j with
  | zero =>
    intro q c hi hc hP
    refine p40_1 ?_
    have h1 : ¬ ((q : Int) < ts.length) := by omega
    simp [ha.lenA, rowsT_len, h1]
    refine p40_3 ?_
    have h2 : ts.drop q = [] := aLs0024 (by omega)
    rw [h2] at hP
    simpa [QP, QI, sizeL] using hP
  | succ j ihj =>
    intro q c hi hc hP
    refine p40_1 ?_
    have h1 : ((q : Int) < ts.length) := by omega
    obtain ⟨t, ht⟩ : ∃ t, ts[q]? = some t := ⟨_, aLs0008 (by omega)⟩
    have hd := drop_cons ht
    rw [hd] at hP hc
    simp only [sizeL] at hP hc
    simp [ha.lenA, rowsT_len, h1]
    refine p40_2 ?_
    simp
    refine wIdx_rows ha (row := rowT t) (by omega) (by simpa using rowsT_get ht) (rowT_len t) (by omega) ?_
    have e3 := ih t (aLs0013 ht)
    have e4 : size t ≤ sizeL ts := size_mem (aLs0013 ht)
    obtain ⟨k, n, x, es⟩ := t
    simp only [rowT, aLs0018, aLs0026] at e3
    simp [rowT]
    refine wCall_pure e3 ?_
    rintro v rfl
    simp only [wInt, xI]
    refine ⟨⟨aLs0000, aLs0000⟩, wAri_fit (by omega) (by omega) (p40_4 ?_)⟩
    simp only [wInt, xI]
    refine ⟨⟨aLs0000, aLs0000⟩, wAri_fit (by omega) (by omega) ?_⟩
    have := ihj (q + 1) (c + size (.mk k n x es)) (by omega) (by omega) (by simpa [aLs0059] using hP)
    simpa using this
mutual
theorem rsize_spec : ∀ (t : Ty), size t < 2 ^ 60 → ∀ (x : AV), TRep t x → PureC (env R) 40 [x] fun r => r = I64 (size t)
  | .mk k n i ts, h, x, hx => by
    obtain ⟨a, rfl, ha⟩ := hx
    simp only [size] at h
    have ih := rsizes_spec ts (by omega)
    refine e40 (u0 := .agg [I64 k, SS n, I64 i, a]) (by simp [ha.close]) (p40_0 ?_)
    simp [ha.ok]
    refine rsize_loop ha (by omega) ih ts.length 0 1 (by omega) (by simp; omega) ?_
    simp [size]
    omega
theorem rsizes_spec : ∀ (l : List Ty), sizeL l < 2 ^ 60 → ∀ t ∈ l, PureC (env R) 40 [.agg ((rowT t).map .pv)] fun r => r = I64 (size t)
  | [], _, _, h => by cases h
  | e :: l, ho, a, h => by
    simp only [sizeL] at ho
    rcases aLs0006.1 h with h' | h'
    · rw [h']
      exact rsize_spec e (by omega) _ (TRep.of_row e)
    · exact rsizes_spec l (by omega) a h'
end
theorem depth_loop {ts : List Ty} {a : AV} (ha : RowsA a (rowsT ts)) (hl : sizeL ts < 2 ^ 60) (ih : ∀ t ∈ ts, PureC (env R) 53 [.agg ((rowT t).map .pv)] fun r => r = I64 (depth t)) {Post : AV → Prop} :
    ∀ (j i c : Nat) (s : Sto), i + j = ts.length → c < 2 ^ 60 → Post (I64 ((max c (depthL (ts.drop i)) + 1 : Nat) : Int)) → P53_1 R 0 0 0 (I64 c) a (I64 ts.length) (I64 i) s (QP Post) := by
  have h60 := sizeL_len ts
  intro j
  induction j with
  | zero =>
    intro i c s hi hc hP
    refine p53_1 ?_
    have h1 : ¬ ((i : Int) < ts.length) := by omega
    simp [h1]
    refine p53_3 ?_
    have h2 : ts.drop i = [] := aLs0024 (by omega)
    rw [h2] at hP
    simp only [depthL, Nat.max_zero] at hP
    simp only [wInt, xI]
    refine ⟨⟨aLs0000, aLs0000⟩, wAri_fit (by omega) (by omega) ?_⟩
    exact ⟨_, clP, by simpa using hP⟩
  | succ j ihj =>
    intro i c s hi hc hP
    refine p53_1 ?_
    have h1 : ((i : Int) < ts.length) := by omega
    obtain ⟨t, ht⟩ : ∃ t, ts[i]? = some t := ⟨_, aLs0008 (by omega)⟩
    have hd := drop_cons ht
    rw [hd] at hP
    simp only [depthL] at hP
    simp [h1]
    refine p53_2 ?_
    refine wIdx_rows ha (row := rowT t) (by omega) (by simpa using rowsT_get ht) (rowT_len t) (by omega) ?_
    have e3 := ih t (aLs0013 ht)
    have e4 : size t ≤ sizeL ts := size_mem (aLs0013 ht)
    have e5 := depth_le t
    obtain ⟨k, n, x, es⟩ := t
    simp only [rowT, aLs0018, aLs0026] at e3
    simp [rowT, get_app, get_app0, set_app, set_app0]
    refine wCall_pure e3 ?_
    rintro v rfl
    refine wAnyT_max (x := .tmp 13) (y := .tmp 15) (t := #[3, 3]) (by kernel_rfl) rfl rfl (p53_4 ?_)
    simp only [wInt, xI]
    refine ⟨⟨aLs0000, aLs0000⟩, wAri_fit (by omega) (by omega) ?_⟩
    have := ihj (i + 1) (max c (depth (.mk k n x es))) ⟨s.bs ++ [[I64 k, SS n, I64 x, .pv (.list (rowsT es))]], s.ts⟩ (by omega) (by omega) (by simpa [Nat.max_assoc] using hP)
    have e6 : ((max c (depth (.mk k n x es)) : Nat) : Int) = max (c : Int) (depth (.mk k n x es)) := by omega
    rw [e6] at this
    simpa using this
mutual
theorem depth_spec : ∀ (t : Ty), size t < 2 ^ 60 → ∀ (x : AV), TRep t x → PureC (env R) 53 [x] fun r => r = I64 (depth t)
  | .mk k n i ts, h, x, hx => by
    obtain ⟨a, rfl, ha⟩ := hx
    simp only [size] at h
    have ih := depths_spec ts (by omega)
    refine e53 (u0 := .agg [I64 k, SS n, I64 i, a]) (by simp [ha.close]) (p53_0 ?_)
    simp [ha.ok, ha.lenA, rowsT_len]
    refine depth_loop ha (by omega) ih ts.length 0 0 _ (by omega) (by omega) ?_
    simp [depth]
theorem depths_spec : ∀ (l : List Ty), sizeL l < 2 ^ 60 → ∀ t ∈ l, PureC (env R) 53 [.agg ((rowT t).map .pv)] fun r => r = I64 (depth t)
  | [], _, _, h => by cases h
  | e :: l, ho, a, h => by
    simp only [sizeL] at ho
    rcases aLs0006.1 h with h' | h'
    · rw [h']
      exact depth_spec e (by omega) _ (TRep.of_row e)
    · exact depths_spec l (by omega) a h'
end
theorem rdepth_loop {k i : Int} {n : List UInt8} {ts : List Ty} {a : AV} (ha : RowsA a (rowsT ts)) (hl : sizeL ts < 2 ^ 60) (ih : ∀ t ∈ ts, PureC (env R) 41 [.agg ((rowT t).map .pv)] fun r => r = I64 (depth t)) {Post : AV → Prop} :
    ∀ (j q c : Nat), q + j = ts.length → c < 2 ^ 60 → Post (I64 ((max c (depthL (ts.drop q)) + 1 : Nat) : Int)) → P41_1 R 0 0 0 (.ptr 0 0) (I64 c) (I64 q) ⟨[[I64 k, SS n, I64 i, a]], []⟩ (QP Post) := by
  have h60 := sizeL_len ts
  intro j
  induction j with
  | zero =>
    intro q c hi hc hP
    refine p41_1 ?_
    have h1 : ¬ ((q : Int) < ts.length) := by omega
    simp [ha.lenA, rowsT_len, h1]
    refine p41_3 ?_
    have h2 : ts.drop q = [] := aLs0024 (by omega)
    rw [h2] at hP
    simp only [depthL, Nat.max_zero] at hP
    simp only [wInt, xI]
    refine ⟨⟨aLs0000, aLs0000⟩, wAri_fit (by omega) (by omega) ?_⟩
    exact ⟨_, clP, by simpa using hP⟩
  | succ j ihj =>
    intro q c hi hc hP
    refine p41_1 ?_
    have h1 : ((q : Int) < ts.length) := by omega
    obtain ⟨t, ht⟩ : ∃ t, ts[q]? = some t := ⟨_, aLs0008 (by omega)⟩
    have hd := drop_cons ht
    rw [hd] at hP
    simp only [depthL] at hP
    simp [ha.lenA, rowsT_len, h1]
    refine p41_2 ?_
    simp
    refine wIdx_rows ha (row := rowT t) (by omega) (by simpa using rowsT_get ht) (rowT_len t) (by omega) ?_
    have e3 := ih t (aLs0013 ht)
    have e4 : size t ≤ sizeL ts := size_mem (aLs0013 ht)
    have e5 := depth_le t
    obtain ⟨k, n, x, es⟩ := t
    simp only [rowT, aLs0018, aLs0026] at e3
    simp [rowT]
    refine wCall_pure e3 ?_
    rintro v rfl
    refine wAnyT_max (x := .tmp 12) (y := .tmp 18) (t := #[3, 3]) (by kernel_rfl) rfl rfl (p41_4 ?_)
    simp only [wInt, xI]
    refine ⟨⟨aLs0000, aLs0000⟩, wAri_fit (by omega) (by omega) ?_⟩
    have := ihj (q + 1) (max c (depth (.mk k n x es))) (by omega) (by omega) (by simpa [Nat.max_assoc] using hP)
    have e6 : ((max c (depth (.mk k n x es)) : Nat) : Int) = max (c : Int) (depth (.mk k n x es)) := by omega
    rw [e6] at this
    simpa using this
mutual
theorem rdepth_spec : ∀ (t : Ty), size t < 2 ^ 60 → ∀ (x : AV), TRep t x → PureC (env R) 41 [x] fun r => r = I64 (depth t)
  | .mk k n i ts, h, x, hx => by
    obtain ⟨a, rfl, ha⟩ := hx
    simp only [size] at h
    have ih := rdepths_spec ts (by omega)
    refine e41 (u0 := .agg [I64 k, SS n, I64 i, a]) (by simp [ha.close]) (p41_0 ?_)
    simp [ha.ok]
    refine rdepth_loop ha (by omega) ih ts.length 0 0 (by omega) (by omega) ?_
    simp [depth]
theorem rdepths_spec : ∀ (l : List Ty), sizeL l < 2 ^ 60 → ∀ t ∈ l, PureC (env R) 41 [.agg ((rowT t).map .pv)] fun r => r = I64 (depth t)
  | [], _, _, h => by cases h
  | e :: l, ho, a, h => by
    simp only [sizeL] at ho
    rcases aLs0006.1 h with h' | h'
    · rw [h']
      exact rdepth_spec e (by omega) _ (TRep.of_row e)
    · exact rdepths_spec l (by omega) a h'
end
end
def bnd (k : Int) (j : Nat) : Nat := bif k == 6 && j == 1 then 1 else 0
mutual
def clos (u : Nat) : Ty → Bool
  | .mk k _ i ts => bif k == 5 && decide ((u : Int) ≤ i) then false else closL u k 0 ts
def closL (u : Nat) (k : Int) (j : Nat) : List Ty → Bool
  | [] => true
  | t :: l => clos (u + bnd k j) t && closL u k (j + 1) l
end
mutual
theorem eqPL_row : ∀ t : Ty, eqPL (rowT t) (rowT t) = true
  | .mk k n i ts => by simp [rowT, eqPL, eqP, eqV_int, eqV_str, eqPLL_rows ts]
theorem eqPLL_rows : ∀ l : List Ty, eqPLL (rowsT l) (rowsT l) = true
  | [] => by simp [rowsT, eqPLL]
  | t :: l => by simp [rowsT, eqPLL, eqPL_row t, eqPLL_rows l]
end
theorem bnd_le (k : Int) (j : Nat) : bnd k j ≤ 1 := by
  unfold bnd
  cases (k == 6 && j == 1) <;> simp
section
variable {R : Nat → Option (List PV)}
theorem binders_spec {k i : Int} {n : List UInt8} {a : AV} {rows : List (List PV)} (ha : RowsA a rows) (j : Nat) : PureC (env R) 121 [.agg [I64 k, SS n, I64 i, a], I64 j] fun r => r = I64 (bnd k j) := by
  refine e121 (u0 := .agg [I64 k, SS n, I64 i, a]) (u1 := I64 j) (by simp [ha.close]) (p121_0 ?_)
  have h2 : (((j : Int)) == 1) = (j == 1) := by
    rw [aLs0039, aLs0028, aLs0028]
    omega
  cases h1 : (k == 6) with
  | false =>
    simp [-beq_iff_eq, ha.ok, h1]
    refine p121_1 ?_
    simp [-beq_iff_eq, QP, QI, bnd, h1]
  | true =>
    cases h3 : (j == 1) with
    | false =>
      rw [h3] at h2
      simp [-beq_iff_eq, ha.ok, h1, h2]
      refine p121_1 ?_
      simp [-beq_iff_eq, QP, QI, bnd, h3]
    | true =>
      rw [h3] at h2
      simp [-beq_iff_eq, QP, QI, ha.ok, h1, h2, bnd, h3]
theorem rbinders_spec {k i : Int} {n : List UInt8} {a : AV} {rows : List (List PV)} (ha : RowsA a rows) (j : Nat) : PureC (env R) 132 [.agg [I64 k, SS n, I64 i, a], I64 j] fun r => r = I64 (bnd k j) := by
  refine e132 (u0 := .agg [I64 k, SS n, I64 i, a]) (u1 := I64 j) (by simp [ha.close]) (p132_0 ?_)
  have h2 : (((j : Int)) == 1) = (j == 1) := by
    rw [aLs0039, aLs0028, aLs0028]
    omega
  cases h1 : (k == 6) with
  | false =>
    simp [-beq_iff_eq, ha.ok, h1]
    refine p132_1 ?_
    simp [-beq_iff_eq, QP, QI, bnd, h1]
  | true =>
    cases h3 : (j == 1) with
    | false =>
      rw [h3] at h2
      simp [-beq_iff_eq, ha.ok, h1, h2]
      refine p132_1 ?_
      simp [-beq_iff_eq, QP, QI, bnd, h3]
    | true =>
      rw [h3] at h2
      simp [-beq_iff_eq, QP, QI, ha.ok, h1, h2, bnd, h3]
theorem closed_loop {k i : Int} {n : List UInt8} {ts : List Ty} {a : AV} {u : Nat} (ha : RowsA a (rowsT ts)) (hl : sizeL ts < 2 ^ 60) (hu : u < 2 ^ 60)
    (ih : ∀ t ∈ ts, ∀ v, v ≤ u + 1 → PureC (env R) 102 [.agg ((rowT t).map .pv), I64 v] fun r => r = BB (clos v t)) {Post : AV → Prop} :
    ∀ (j q : Nat) (m : List (List AV)), q + j = ts.length → Post (BB (closL u k q (ts.drop q))) → P102_2 R 0 0 0 (I64 u) (.ptr 0 0) a (I64 ts.length) (I64 q) ⟨[I64 k, SS n, I64 i, a] :: m, []⟩ (QP Post) := by
  have h60 := sizeL_len ts
  intro j
  induction j with
  | zero =>
    intro q m hi hP
    refine p102_2 ?_
    have h1 : ¬ ((q : Int) < ts.length) := by omega
    simp [h1]
    refine p102_4 ?_
    have h2 : ts.drop q = [] := aLs0024 (by omega)
    rw [h2] at hP
    simpa [QP, QI, closL] using hP
  | succ j ihj =>
    intro q m hi hP
    refine p102_2 ?_
    have h1 : ((q : Int) < ts.length) := by omega
    obtain ⟨t, ht⟩ : ∃ t, ts[q]? = some t := ⟨_, aLs0008 (by omega)⟩
    have hd := drop_cons ht
    rw [hd] at hP
    simp only [closL] at hP
    simp [h1]
    refine p102_3 ?_
    refine wIdx_rows ha (row := rowT t) (by omega) (by simpa using rowsT_get ht) (rowT_len t) (by omega) ?_
    have hb := bnd_le k q
    have e3 := ih t (aLs0013 ht) (u + bnd k q) (by omega)
    obtain ⟨k', n', x, es⟩ := t
    simp only [rowT, aLs0018, aLs0026] at e3
    simp [rowT, get_app, get_app0, set_app, set_app0]
    refine wCall_pure (binders_spec ha q) ?_
    rintro v rfl
    simp only [wInt, xI]
    refine ⟨⟨aLs0000, aLs0000⟩, wAri_fit (by omega) (by omega) ?_⟩
    have ec : (u : Int) + (bnd k q : Int) = ((u + bnd k q : Nat) : Int) := by omega
    rw [ec]
    refine wCall_pure e3 ?_
    rintro v rfl
    cases hc : clos (u + bnd k q) (.mk k' n' x es) with
    | false =>
      rw [hc] at hP
      simp [QP, QI, eqA, eqAL, eqP, eqV_int, eqV_str, eqPLL_rows]
      simpa using hP
    | true =>
      rw [hc] at hP
      simp [eqA, eqAL, eqP, eqV_int, eqV_str, eqPLL_rows]
      refine p102_5 ?_
      simp only [wInt, xI]
      refine ⟨⟨aLs0000, aLs0000⟩, wAri_fit (by omega) (by omega) ?_⟩
      have := ihj (q + 1) (m ++ [[I64 k', SS n', I64 x, .pv (.list (rowsT es))]]) (by omega) (by simpa using hP)
      simpa using this
mutual
theorem closed_spec : ∀ (t : Ty), size t < 2 ^ 60 → ∀ (u : Nat), u + size t < 2 ^ 60 → ∀ (x : AV), TRep t x → PureC (env R) 102 [x, I64 u] fun r => r = BB (clos u t)
  | .mk k n i ts, h, u, hu, x, hx => by
    obtain ⟨a, rfl, ha⟩ := hx
    simp only [size] at h hu
    have ih := closeds_spec ts (by omega) (u + 1) (by omega)
    suffices H : ∀ Post : AV → Prop, Post (BB (clos u (.mk k n i ts))) → P102_0 R 0 0 0 (.agg [I64 k, SS n, I64 i, a]) (I64 u) ⟨[], []⟩ (QP Post) from
      e102 (u0 := .agg [I64 k, SS n, I64 i, a]) (u1 := I64 u) (by simp [ha.close]) (H _ rfl)
    intro Post hPost
    refine p102_0 ?_
    simp only [clos] at hPost
    have go : Post (BB (closL u k 0 ts)) → P102_1 R 0 0 0 (I64 u) (.ptr 0 0) ⟨[[I64 k, SS n, I64 i, a]], []⟩ (QP Post) := by
      intro hP
      refine p102_1 ?_
      simp [ha.lenA, rowsT_len]
      exact closed_loop (m := []) ha (by omega) (by omega) ih ts.length 0 (by omega) (by simpa using hP)
    cases h1 : (k == 5) with
    | false =>
      rw [h1] at hPost
      simp [-beq_iff_eq, ha.ok, h1]
      exact go (by simpa using hPost)
    | true =>
      rw [h1] at hPost
      cases h2 : decide ((u : Int) ≤ i) with
      | true =>
        rw [h2] at hPost
        simpa [-beq_iff_eq, -decide_eq_true_eq, QP, QI, ha.ok, h1, h2] using hPost
      | false =>
        rw [h2] at hPost
        simp [-beq_iff_eq, -decide_eq_false_iff_not, ha.ok, h1, h2]
        exact go (by simpa using hPost)
theorem closeds_spec : ∀ (l : List Ty), sizeL l < 2 ^ 60 → ∀ (w : Nat), w + sizeL l < 2 ^ 60 → ∀ t ∈ l, ∀ v, v ≤ w → PureC (env R) 102 [.agg ((rowT t).map .pv), I64 v] fun r => r = BB (clos v t)
  | [], _, _, _, _, h => by cases h
  | e :: l, ho, w, hw, a, h => by
    simp only [sizeL] at ho hw
    rcases aLs0006.1 h with h' | h'
    · rw [h']
      exact fun v hv => closed_spec e (by omega) v (by omega) _ (TRep.of_row e)
    · exact closeds_spec l (by omega) w (by omega) a h'
end
end
theorem intRows_get {l : List Int} {i : Nat} {n : Int} (h : l[i]? = some n) : (intRows l)[i]? = some [.sc (.int .i64 n)] := by simp [intRows, h]
theorem eqA_rows {a : AV} {ts : List Ty} (h : RowsA a (rowsT ts)) : eqA a a = true := by
  rcases h with rfl | rfl <;> simp [eqA, eqP, eqPLL_rows]
theorem eqPLL_ints : ∀ l : List Int, eqPLL (intRows l) (intRows l) = true
  | [] => by simp [intRows, eqPLL]
  | t :: l => by
    have := eqPLL_ints l
    simp only [intRows] at this
    simp [intRows, eqPLL, eqPL, eqP, eqV_int, this]
section
variable {R : Nat → Option (List PV)}
theorem iins_end {l : List Int} {x : AV} (hx : RowsA x (intRows l)) (hl : l.length < 2 ^ 40) (v : Int) {Post : AV → Prop} (hP : ∀ r m, RowsA r (intRows m) → m ≠ [] → m.length ≤ l.length + 1 → Post r) (q : Nat) (hq : q ≤ l.length) :
    P131_4 R 0 0 0 x (I64 v) (I64 q) ⟨[], []⟩ (QP Post) := by
  refine p131_4 ?_
  have hlen : (intRows l).length = l.length := intRows_len l
  have hall : ((intRows l).all fun r => r.length == 1) = true := by
    rw [aLs0015]
    intro r hr
    simpa using intRows_row r hr
  have slc : ∀ (lo hi : Option AV) (a b : Nat) (s : Sto) (K : AV → Prop), optNat 0 lo = some a → optNat l.length hi = some b → a ≤ b → b ≤ l.length → K (.pv (.list (((intRows l).take b).drop a))) → wSlc s 1 x lo hi none K := by
    intro lo hi a b s K h1 h2 h3 h4 hK
    have hr := hx.rowsOf
    rcases hx with rfl | rfl
    · simp only [wSlc, hr, wO, hlen]
      exact ⟨a, b, h1, h2, ⟨h3, h4, hall⟩, hK⟩
    · simp only [wSlc, hr, wO, hlen]
      exact ⟨a, b, h1, h2, ⟨h3, h4, hall⟩, hK⟩
  have hq1 : optNat 0 (some (I64 q)) = some q := by simp [optNat, natOfA]
  have hq2 : optNat l.length (some (I64 q)) = some q := by simp [optNat, natOfA]
  have e0 : ((intRows l).take q).drop 0 = intRows (l.take q) := by simp [intRows, aLs0096]
  have e1 : ((intRows l).take l.length).drop q = intRows (l.drop q) := by
    rw [aLs0019 (by omega)]; simp [intRows, aLs0110]
  simp [wBsl, repl, fillS, wO, toPVs, rowsBy]
  refine slc none (some (I64 q)) 0 q _ _ rfl hq2 (by omega) hq ?_
  rw [e0]
  have hL : ∀ (m : List Int), m.length = (intRows m).length := fun m => (intRows_len m).symm
  refine wApp_rows (ts := []) (x := []) (rows := []) (m := intRows (l.take q)) (.inl rfl) (by simp [LFE]) (by simp) intRows_row (by omega) (srcCells_rows (.inl (.list _)) intRows_row) intRows_ok (by rw [← hL]; simp; omega) (by rw [← hL]; simp; omega) ?_
  intro a1 x1 ha1
  simp [wBsl, repl, fillS, wO, toPVs, rowsBy, setCells]
  refine wApp_rows (ts := []) (m := intRows [v]) ha1 (by simp [LFE]) (by simpa using intRows_row) intRows_row (by omega) (srcCells_rows (.inl (.capped _)) intRows_row) intRows_ok (by simp [intRows]; omega) (by simp [intRows]; omega) ?_
  intro a2 x2 ha2
  refine slc (some (I64 q)) none q l.length _ _ hq1 rfl hq (by omega) ?_
  rw [e1]
  have e2 : [] ++ intRows (l.take q) ++ intRows [v] = intRows (l.take q ++ [v]) := by simp [intRows]
  rw [e2] at ha2
  refine wApp_rows (ts := []) (m := intRows (l.drop q)) ha2 (by simp [LFE]) intRows_row intRows_row (by omega) (srcCells_rows (.inl (.list _)) intRows_row) intRows_ok (by simp [intRows]; omega) (by simp [intRows]; omega) ?_
  intro a3 x3 ha3
  have e3 : intRows (l.take q ++ [v]) ++ intRows (l.drop q) = intRows (l.take q ++ [v] ++ l.drop q) := by simp [intRows]
  rw [e3] at ha3
  refine ⟨?_, ?_, ?_⟩
  · refine slc (some (I64 q)) none q l.length _ _ hq1 rfl hq (by omega) ?_
    rw [e1]
    simp [eqA, eqP, eqPLL_ints]
  · refine slc (some (I64 q)) none q l.length _ _ hq1 rfl hq (by omega) ?_
    rw [e1]
    simp [eqA, eqP, eqPLL_ints]
  · obtain ⟨v', h1, h2⟩ := ha3.rowsO.closed ([] : List (List AV)) 0
    exact ⟨v', h1, hP _ _ h2 (by simp) (by simp; omega)⟩
theorem iins_mid {l : List Int} {x : AV} (hx : RowsA x (intRows l)) (hl : l.length < 2 ^ 40) (v : Int) {Post : AV → Prop} (hP : ∀ r m, RowsA r (intRows m) → m ≠ [] → m.length ≤ l.length + 1 → Post r) (q : Nat) (hq : q ≤ l.length) :
    P131_3 R 0 0 0 x (I64 v) (I64 q) ⟨[], []⟩ (QP Post) := by
  refine p131_3 ?_
  have hlen : (intRows l).length = l.length := intRows_len l
  by_cases h : q < l.length
  · have h1 : ((q : Int) < l.length) := by omega
    obtain ⟨t, ht⟩ : ∃ t, l[q]? = some t := ⟨_, aLs0008 (by omega)⟩
    simp [hx.lenA, hlen, h1]
    refine wIdx_rows hx (row := [.sc (.int .i64 t)]) (by omega) (by simpa using intRows_get ht) rfl (by omega) ?_
    simp
    refine ⟨fun _ => ?_, fun _ => iins_end hx hl v hP q hq⟩
    simp [QP, QI, hx.close]
    exact hP _ l hx (by intro e; rw [e] at h; simp at h) (by omega)
  · have h1 : ¬ ((q : Int) < l.length) := by omega
    simp [hx.lenA, hlen, h1]
    exact iins_end hx hl v hP q hq
theorem iins_loop {l : List Int} {x : AV} (hx : RowsA x (intRows l)) (hl : l.length < 2 ^ 40) (v : Int) {Post : AV → Prop} (hP : ∀ r m, RowsA r (intRows m) → m ≠ [] → m.length ≤ l.length + 1 → Post r) :
    ∀ (j q : Nat), q + j = l.length → P131_1 R 0 0 0 x (I64 v) (I64 q) ⟨[], []⟩ (QP Post) := by
  have hlen : (intRows l).length = l.length := intRows_len l
  intro j
  induction j with
  | zero =>
    intro q hq
    refine p131_1 ?_
    have h1 : ¬ ((q : Int) < l.length) := by omega
    simp [hx.lenA, hlen, h1]
    exact iins_mid hx hl v hP q (by omega)
  | succ j ih =>
    intro q hq
    refine p131_1 ?_
    have h1 : ((q : Int) < l.length) := by omega
    obtain ⟨t, ht⟩ : ∃ t, l[q]? = some t := ⟨_, aLs0008 (by omega)⟩
    simp [hx.lenA, hlen, h1]
    refine wIdx_rows hx (row := [.sc (.int .i64 t)]) (by omega) (by simpa using intRows_get ht) rfl (by omega) ?_
    simp
    refine ⟨fun _ => ?_, fun _ => iins_mid hx hl v hP q (by omega)⟩
    refine p131_2 ?_
    simp only [wInt, xI]
    refine ⟨⟨aLs0000, aLs0000⟩, wAri_fit (by omega) (by omega) ?_⟩
    have := ih (q + 1) (by omega)
    simpa using this
theorem insertInt_spec {l : List Int} {x : AV} (hx : RowsA x (intRows l)) (hl : l.length < 2 ^ 40) (v : Int) : PureC (env R) 131 [x, I64 v] fun r => ∃ m, RowsA r (intRows m) ∧ m ≠ [] ∧ m.length ≤ l.length + 1 := by
  refine e131 (u0 := x) (u1 := I64 v) (by simp [hx.close]) (p131_0 ?_)
  exact iins_loop hx hl v (fun r m h1 h2 h3 => ⟨m, h1, h2, h3⟩) l.length 0 (by omega)
theorem free_loop {k i : Int} {n : List UInt8} {ts : List Ty} {a : AV} {u : Nat} (ha : RowsA a (rowsT ts)) (hl : sizeL ts < 2 ^ 39) (hu : u < 2 ^ 60)
    (ih : ∀ t ∈ ts, ∀ v, v ≤ u + 1 → ∀ (l : List Int) (y : AV), RowsA y (intRows l) → l.length + size t < 2 ^ 40 →
      PureC (env R) 115 [.agg ((rowT t).map .pv), I64 v, y] fun r => ∃ m, RowsA r (intRows m) ∧ (m = [] ↔ l = [] ∧ clos v t = true) ∧ m.length ≤ l.length + size t) {Post : AV → Prop} :
    ∀ (j q : Nat) (l : List Int) (y : AV), RowsA y (intRows l) → l.length + sizeL (ts.drop q) < 2 ^ 40 → q + j = ts.length →
      (∀ r m, RowsA r (intRows m) → (m = [] ↔ l = [] ∧ closL u k q (ts.drop q) = true) → m.length ≤ l.length + sizeL (ts.drop q) → Post r) →
      P115_2 R 0 0 0 (I64 u) y (.ptr 0 0) (I64 q) ⟨[[I64 k, SS n, I64 i, a]], []⟩ (QP Post) := by
  have h60 := sizeL_len ts
  intro j
  induction j with
  | zero =>
    intro q l y hy hc hi hP
    refine p115_2 ?_
    have h1 : ¬ ((q : Int) < ts.length) := by omega
    simp [ha.lenA, rowsT_len, h1]
    refine p115_4 ?_
    have h2 : ts.drop q = [] := aLs0024 (by omega)
    rw [h2] at hP
    exact ⟨y, hy.close _ _ _, hP y l hy (by simp [closL]) (by simp [sizeL])⟩
  | succ j ihj =>
    intro q l y hy hc hi hP
    refine p115_2 ?_
    have h1 : ((q : Int) < ts.length) := by omega
    obtain ⟨t, ht⟩ : ∃ t, ts[q]? = some t := ⟨_, aLs0008 (by omega)⟩
    have hd := drop_cons ht
    rw [hd] at hP hc
    simp only [closL, sizeL] at hP hc
    simp [ha.lenA, rowsT_len, h1]
    refine p115_3 ?_
    simp
    refine wIdx_rows ha (row := rowT t) (by omega) (by simpa using rowsT_get ht) (rowT_len t) (by omega) ?_
    have hb := bnd_le k q
    have e3 := ih t (aLs0013 ht) (u + bnd k q) (by omega) l y hy (by omega)
    have hrow := rowsT_get ht
    obtain ⟨k', n', x, es⟩ := t
    simp only [rowT, aLs0018, aLs0026] at e3 hrow
    simp [rowT]
    refine wCall_pure (rbinders_spec ha q) ?_
    rintro v rfl
    simp only [wInt, xI]
    refine ⟨⟨aLs0000, aLs0000⟩, wAri_fit (by omega) (by omega) ?_⟩
    have ec : (u : Int) + (bnd k q : Int) = ((u + bnd k q : Nat) : Int) := by omega
    rw [ec]
    refine wCall_pure e3 ?_
    rintro v ⟨m, hm, hmi, hml⟩
    simp [eqA, eqA_rows ha, eqAL, eqP, eqPL, eqV_int, eqV_str, eqPLL_rows]
    refine ⟨wIdx_rows ha (by omega) (by simpa using hrow) (by simp) (by omega) (by simp [eqA, eqP, eqPL, eqV_int, eqV_str, eqPLL_rows]), p115_5 ?_⟩
    simp only [wInt, xI]
    refine ⟨⟨aLs0000, aLs0000⟩, wAri_fit (by omega) (by omega) ?_⟩
    have := ihj (q + 1) m v hm (by omega) (by omega) (by
      intro r m' h1 h2 h3
      refine hP r m' h1 ?_ (by omega)
      rw [h2, hmi, aLs0002]
      exact ⟨fun ⟨⟨a, b⟩, c⟩ => ⟨a, b, c⟩, fun ⟨a, b, c⟩ => ⟨⟨a, b⟩, c⟩⟩)
    simpa using this
mutual
theorem free_spec : ∀ (t : Ty), size t < 2 ^ 39 → ∀ (u : Nat), u + size t < 2 ^ 60 → ∀ (x : AV), TRep t x → ∀ (l : List Int) (y : AV), RowsA y (intRows l) → l.length + size t < 2 ^ 40 →
    PureC (env R) 115 [x, I64 u, y] fun r => ∃ m, RowsA r (intRows m) ∧ (m = [] ↔ l = [] ∧ clos u t = true) ∧ m.length ≤ l.length + size t
  | .mk k n i ts, h, u, hu, x, hx, l, y, hy, hl => by
    obtain ⟨a, rfl, ha⟩ := hx
    simp only [size] at h hu hl
    have ih := frees_spec ts (by omega) (u + 1) (by omega)
    suffices H : ∀ Post : AV → Prop, (∀ r m, RowsA r (intRows m) → (m = [] ↔ l = [] ∧ clos u (.mk k n i ts) = true) → m.length ≤ l.length + size (.mk k n i ts) → Post r) → P115_0 R 0 0 0 (.agg [I64 k, SS n, I64 i, a]) (I64 u) y ⟨[], []⟩ (QP Post) from
      e115 (u0 := .agg [I64 k, SS n, I64 i, a]) (u1 := I64 u) (u2 := y) (by simp [ha.close, hy.close]) (H _ fun r m h1 h2 h3 => ⟨m, h1, h2, h3⟩)
    intro Post hPost
    refine p115_0 ?_
    simp only [clos, size] at hPost
    cases h1 : (k == 5) with
    | false =>
      rw [h1] at hPost
      simp [-beq_iff_eq, ha.ok, h1]
      refine p115_1 ?_
      exact free_loop ha (by omega) (by omega) ih ts.length 0 l y hy (by simpa using by omega) (by omega) (fun r m a b c => hPost r m a (by simpa using b) (by simp at c; omega))
    | true =>
      rw [h1] at hPost
      cases h2 : decide ((u : Int) ≤ i) with
      | true =>
        rw [h2] at hPost
        simp [-beq_iff_eq, -decide_eq_true_eq, ha.ok, h1, h2, wAri]
        refine wCall_pure (insertInt_spec hy (by omega) _) ?_
        rintro v ⟨m, hm, hne, hml⟩
        refine p115_1 ?_
        refine free_loop ha (by omega) (by omega) ih ts.length 0 m v hm (by simpa using by omega) (by omega) (fun r m' a b c => hPost r m' a ?_ (by simp at c; omega))
        rw [b]
        simp [hne]
      | false =>
        rw [h2] at hPost
        simp [-beq_iff_eq, -decide_eq_false_iff_not, ha.ok, h1, h2]
        refine p115_1 ?_
        exact free_loop ha (by omega) (by omega) ih ts.length 0 l y hy (by simpa using by omega) (by omega) (fun r m a b c => hPost r m a (by simpa using b) (by simp at c; omega))
theorem frees_spec : ∀ (l : List Ty), sizeL l < 2 ^ 39 → ∀ (w : Nat), w + sizeL l < 2 ^ 60 → ∀ t ∈ l, ∀ v, v ≤ w → ∀ (z : List Int) (y : AV), RowsA y (intRows z) → z.length + size t < 2 ^ 40 →
      PureC (env R) 115 [.agg ((rowT t).map .pv), I64 v, y] fun r => ∃ m, RowsA r (intRows m) ∧ (m = [] ↔ z = [] ∧ clos v t = true) ∧ m.length ≤ z.length + size t
  | [], _, _, _, _, h => by cases h
  | e :: l, ho, w, hw, a, h => by
    simp only [sizeL] at ho hw
    rcases aLs0006.1 h with h' | h'
    · rw [h']
      exact fun v hv z y hy hz => free_spec e (by omega) v (by omega) _ (TRep.of_row e) z y hy hz
    · exact frees_spec l (by omega) w (by omega) a h'
end
theorem termClosed_spec {t : Ty} (h : size t < 2 ^ 38) {x : AV} (hx : TRep t x) : PureC (env R) 70 [x] fun r => r = BB (clos 0 t) := by
  obtain ⟨k, n, i, ts⟩ := t
  obtain ⟨a, rfl, ha⟩ := hx
  refine e70 (u0 := .agg [I64 k, SS n, I64 i, a]) (by simp [ha.close]) (p70_0 ?_)
  simp [ha.ok]
  have e96' : PureC (env R) 96 [.agg [I64 k, SS n, I64 i, a]] fun r => ∃ m, RowsA r (intRows m) ∧ (m = [] ↔ clos 0 (.mk k n i ts) = true) := by
    refine e96 (u0 := .agg [I64 k, SS n, I64 i, a]) (by simp [ha.close]) (p96_0 ?_)
    simp [ha.ok]
    refine wCall_pure (free_spec (.mk k n i ts) (by omega) 0 (by omega) _ ⟨a, rfl, ha⟩ [] (.capped []) (.capped []) (by simpa using by omega)) ?_
    rintro v ⟨m, hm, hmi, _⟩
    exact ⟨v, hm.close _ _ _, m, hm, by simpa using hmi⟩
  refine wCall_pure e96' ?_
  rintro v ⟨m, hm, hmi⟩
  simp [QP, QI, hm.lenA, intRows_len]
  cases hc : clos 0 (.mk k n i ts) with
  | true =>
    have := hmi.2 hc
    simp [this]
  | false =>
    have : m ≠ [] := fun e => by rw [hmi.1 e] at hc; simp at hc
    cases m with
    | nil => exact absurd rfl this
    | cons z m =>
      simp
      omega
end
mutual
def plain : Ty → Bool
  | .mk k n i ts => k == 5 || clos 0 (.mk k n i ts) || (k == 2 && plainL ts)
def plainL : List Ty → Bool
  | [] => true
  | t :: l => plain t && plainL l
end
section
variable {R : Nat → Option (List PV)}
theorem idx_loop {f : FuncId} {g : Ty → Bool} {ts : List Ty} {y : AV} (hy : RowsA y (rowsT ts)) (hl : sizeL ts < 2 ^ 60) (hf : ∀ t ∈ ts, PureC (env R) f [.agg ((rowT t).map .pv)] fun r => r = BB (g t)) {Post : AV → Prop} :
    ∀ (j q : Nat), q + j = ts.length → (∀ i : Int, decide (0 ≤ i) = (ts.drop q).any g → Post (I64 i)) → P103_1 R 0 0 0 y (.func (.func f) [] []) (I64 ts.length) (I64 q) ⟨[], []⟩ (QP Post) := by
  have h60 := sizeL_len ts
  intro j
  induction j with
  | zero =>
    intro q hi hP
    refine p103_1 ?_
    have h1 : ¬ ((q : Int) < ts.length) := by omega
    simp [h1]
    refine p103_3 ?_
    have h2 : ts.drop q = [] := aLs0024 (by omega)
    rw [h2] at hP
    have := hP (-1) (by simp)
    simpa [QP, QI] using this
  | succ j ihj =>
    intro q hi hP
    refine p103_1 ?_
    have h1 : ((q : Int) < ts.length) := by omega
    obtain ⟨t, ht⟩ : ∃ t, ts[q]? = some t := ⟨_, aLs0008 (by omega)⟩
    have hd := drop_cons ht
    rw [hd] at hP
    simp [h1]
    refine p103_2 ?_
    refine wIdx_rows hy (row := rowT t) (by omega) (by simpa using rowsT_get ht) (rowT_len t) (by omega) ?_
    have e3 := hf t (aLs0013 ht)
    cases hg : g t with
    | true =>
      rw [hg] at e3
      have := hP q (by simp [hg])
      obtain ⟨k', n', x, es⟩ := t
      simp only [rowT, aLs0018, aLs0026] at e3
      simp [rowT]
      refine wCall_pure e3 ?_
      rintro v rfl
      simpa [QP, QI] using this
    | false =>
      rw [hg] at e3
      simp only [List.any_cons, hg, aLs0075] at hP
      obtain ⟨k', n', x, es⟩ := t
      simp only [rowT, aLs0018, aLs0026] at e3
      simp [rowT]
      refine wCall_pure e3 ?_
      rintro v rfl
      simp
      refine p103_4 ?_
      simp only [wInt, xI]
      refine ⟨⟨aLs0000, aLs0000⟩, wAri_fit (by omega) (by omega) ?_⟩
      have := ihj (q + 1) (by omega) hP
      simpa using this
theorem contains_spec {f : FuncId} {g : Ty → Bool} {ts : List Ty} {y : AV} (hy : RowsA y (rowsT ts)) (hl : sizeL ts < 2 ^ 60) (hf : ∀ t ∈ ts, PureC (env R) f [.agg ((rowT t).map .pv)] fun r => r = BB (g t)) :
    PureC (env R) 79 [y, .func (.func f) [] []] fun r => r = BB (ts.any g) := by
  have hi : PureC (env R) 103 [y, .func (.func f) [] []] fun r => ∃ i : Int, r = I64 i ∧ decide (0 ≤ i) = ts.any g := by
    refine e103 (by simp [noIdL, hy.noId, noId]) (p103_0 ?_)
    simp [hy.lenA, rowsT_len]
    exact idx_loop hy hl hf ts.length 0 (by omega) (fun i h => ⟨i, rfl, by simpa using h⟩)
  refine e79 (by simp [noIdL, hy.noId, noId]) (p79_0 ?_)
  refine wCall_pure hi ?_
  rintro v ⟨i, rfl, h⟩
  simp only [wInt, xI]
  refine ⟨⟨aLs0000, aLs0000⟩, _, clP, ?_⟩
  rw [← h]
mutual
theorem isPlain_spec : ∀ (t : Ty), size t < 2 ^ 38 → ∀ (x : AV), TRep t x → PureC (env R) 120 [x] fun r => r = BB (plain t)
  | .mk k n i ts, h, x, hx => by
    obtain ⟨a, rfl, ha⟩ := hx
    have hs := h
    simp only [size] at h
    have ih := plainArgs_spec k n i ts (by omega) a ha
    have hc : PureC (env R) 102 [.agg [I64 k, SS n, I64 i, a], I64 0] fun r => r = BB (clos 0 (.mk k n i ts)) := closed_spec (.mk k n i ts) (by omega) 0 (by omega) _ ⟨a, rfl, ha⟩
    refine e120 (u0 := .agg [I64 k, SS n, I64 i, a]) (by simp [ha.close]) (p120_0 ?_)
    cases h1 : (k == 5) with
    | true => simp [-beq_iff_eq, QP, QI, ha.ok, h1, plain]
    | false =>
      simp [-beq_iff_eq, ha.ok, h1]
      refine wCall_pure hc ?_
      rintro v rfl
      cases h2 : clos 0 (.mk k n i ts) with
      | true => simp [-beq_iff_eq, QP, QI, h2, plain]
      | false =>
        cases h3 : (k == 2) with
        | false => simp [-beq_iff_eq, QP, QI, h1, h2, h3, plain]
        | true =>
          have e2 : k = 2 := by simpa using h3
          subst e2
          simp
          refine wCall_pure ih ?_
          rintro v rfl
          cases h4 : plainL ts <;> simp [QP, QI, h2, h4, plain]
theorem plainArgs_spec (k : Int) (n : List UInt8) (i : Int) : ∀ (ts : List Ty), sizeL ts < 2 ^ 38 → ∀ (a : AV), RowsA a (rowsT ts) → PureC (env R) 101 [.agg [I64 k, SS n, I64 i, a]] fun r => r = BB (plainL ts)
  | ts, h, a, ha => by
    have ih := plains_spec ts h
    refine e101 (u0 := .agg [I64 k, SS n, I64 i, a]) (by simp [ha.close]) (p101_0 ?_)
    simp [ha.ok]
    have hf : ∀ t ∈ ts, PureC (env R) 119 [.agg ((rowT t).map .pv)] fun r => r = BB (!plain t) := by
      intro t ht
      have e := ih t ht
      refine e119 (by cases t; simp [rowT, noIdL, noId]) (p119_0 ?_)
      obtain ⟨k', n', x, es⟩ := t
      simp only [rowT, aLs0018, aLs0026] at e
      simp [rowT]
      refine wCall_pure e ?_
      rintro v rfl
      simp [QP, QI]
    refine wCall_pure (contains_spec ha (by omega) hf) ?_
    rintro v rfl
    have : (!ts.any fun t => !plain t) = plainL ts := by
      clear ih hf ha h
      induction ts with
      | nil => rfl
      | cons t l ih => simp [plainL, ← ih]
    simp [QP, QI, ← this]
theorem plains_spec : ∀ (l : List Ty), sizeL l < 2 ^ 38 → ∀ t ∈ l, PureC (env R) 120 [.agg ((rowT t).map .pv)] fun r => r = BB (plain t)
  | [], _, _, h => by cases h
  | e :: l, ho, a, h => by
    simp only [sizeL] at ho
    rcases aLs0006.1 h with h' | h'
    · rw [h']
      exact isPlain_spec e (by omega) _ (TRep.of_row e)
    · exact plains_spec l (by omega) a h'
end
theorem rplain_loop {k i : Int} {n : List UInt8} {ts : List Ty} {a : AV} (ha : RowsA a (rowsT ts)) (hl : sizeL ts < 2 ^ 38) (ih : ∀ t ∈ ts, PureC (env R) 69 [.agg ((rowT t).map .pv)] fun r => r = BB (plain t)) {Post : AV → Prop} :
    ∀ (j q : Nat), q + j = ts.length → Post (BB (k == 2 && plainL (ts.drop q))) → P69_2 R 0 0 0 (.ptr 0 0) (I64 q) ⟨[[I64 k, SS n, I64 i, a]], []⟩ (QP Post) := by
  have h60 := sizeL_len ts
  intro j
  induction j with
  | zero =>
    intro q hi hP
    refine p69_2 ?_
    have h1 : ¬ ((q : Int) < ts.length) := by omega
    simp [ha.lenA, rowsT_len, h1]
    refine p69_4 ?_
    have h2 : ts.drop q = [] := aLs0024 (by omega)
    rw [h2] at hP
    simpa [QP, QI, plainL] using hP
  | succ j ihj =>
    intro q hi hP
    refine p69_2 ?_
    have h1 : ((q : Int) < ts.length) := by omega
    obtain ⟨t, ht⟩ : ∃ t, ts[q]? = some t := ⟨_, aLs0008 (by omega)⟩
    have hd := drop_cons ht
    rw [hd] at hP
    simp only [plainL] at hP
    simp [ha.lenA, rowsT_len, h1]
    refine p69_3 ?_
    simp
    refine wIdx_rows ha (row := rowT t) (by omega) (by simpa using rowsT_get ht) (rowT_len t) (by omega) ?_
    have e3 := ih t (aLs0013 ht)
    have hr := rowT_len t
    cases hg : plain t with
    | true =>
      rw [hg] at e3 hP
      obtain ⟨k', n', x, es⟩ := t
      simp only [rowT, aLs0018, aLs0026] at e3
      simp [rowT]
      refine wCall_pure e3 ?_
      rintro v rfl
      simp
      refine p69_5 ?_
      simp only [wInt, xI]
      refine ⟨⟨aLs0000, aLs0000⟩, wAri_fit (by omega) (by omega) ?_⟩
      have := ihj (q + 1) (by omega) (by simpa using hP)
      simpa using this
    | false =>
      rw [hg] at e3 hP
      obtain ⟨k', n', x, es⟩ := t
      simp only [rowT, aLs0018, aLs0026] at e3
      simp [rowT]
      refine wCall_pure e3 ?_
      rintro v rfl
      simpa [QP, QI] using hP
mutual
theorem rplain_spec : ∀ (t : Ty), size t < 2 ^ 38 → ∀ (x : AV), TRep t x → PureC (env R) 69 [x] fun r => r = BB (plain t)
  | .mk k n i ts, h, x, hx => by
    obtain ⟨a, rfl, ha⟩ := hx
    have hs := h
    simp only [size] at h
    have ih := rplains_spec ts (by omega)
    have hc : PureC (env R) 70 [.agg [I64 k, SS n, I64 i, a]] fun r => r = BB (clos 0 (.mk k n i ts)) := termClosed_spec hs ⟨a, rfl, ha⟩
    suffices H : ∀ Post : AV → Prop, Post (BB (plain (.mk k n i ts))) → P69_0 R 0 0 0 (.agg [I64 k, SS n, I64 i, a]) ⟨[], []⟩ (QP Post) from
      e69 (u0 := .agg [I64 k, SS n, I64 i, a]) (by simp [ha.close]) (H _ rfl)
    intro Post hPost
    refine p69_0 ?_
    simp only [plain] at hPost
    cases h1 : (k == 5) with
    | true =>
      rw [h1] at hPost
      simpa [-beq_iff_eq, QP, QI, ha.ok, h1] using hPost
    | false =>
      rw [h1] at hPost
      simp [-beq_iff_eq, ha.ok, h1]
      refine wCall_pure hc ?_
      rintro v rfl
      cases h2 : clos 0 (.mk k n i ts) with
      | true =>
        rw [h2] at hPost
        simpa [-beq_iff_eq, QP, QI] using hPost
      | false =>
        rw [h2] at hPost
        simp [-beq_iff_eq]
        refine p69_1 ?_
        exact rplain_loop ha (by omega) ih ts.length 0 (by omega) (by simpa using hPost)
theorem rplains_spec : ∀ (l : List Ty), sizeL l < 2 ^ 38 → ∀ t ∈ l, PureC (env R) 69 [.agg ((rowT t).map .pv)] fun r => r = BB (plain t)
  | [], _, _, h => by cases h
  | e :: l, ho, a, h => by
    simp only [sizeL] at ho
    rcases aLs0006.1 h with h' | h'
    · rw [h']
      exact rplain_spec e (by omega) _ (TRep.of_row e)
    · exact rplains_spec l (by omega) a h'
end
end
def isLet (n : Int) : Bool := (decide (97 ≤ n) && decide (n ≤ 122)) || (decide (65 ≤ n) && decide (n ≤ 90))
def isDig (n : Int) : Bool := decide (48 ≤ n) && decide (n ≤ 57)
def isWB (n : Int) : Bool := isLet n || isDig n || n == 95 || n == 45
abbrev BY (n : Int) : AV := .pv (.sc (.int .u8 n))
def isId (l : List UInt8) : Bool := l != [] && decide (l.length ≤ 24) && (match l with | [] => false | c :: _ => isLet c.toNat) && l.all fun c => !((c.toNat : Int) == 45) && isWB c.toNat
def resv : List (List UInt8) := [[65, 110, 121], [78, 101, 118, 101, 114], [116, 117, 112, 108, 101], [117, 110, 105, 111, 110], [101, 120, 105, 115, 116, 115]]
section
variable {R : Nat → Option (List PV)}
theorem letter_spec (n : Int) : PureC (env R) 112 [BY n] fun r => r = BB (isLet n) := by
  refine e112 rfl (p112_0 ?_)
  by_cases h1 : 97 ≤ n <;> by_cases h2 : n ≤ 122 <;> by_cases h3 : 65 ≤ n <;> by_cases h4 : n ≤ 90 <;> simp [QP, QI, isLet, h1, h2, h3, h4]
theorem rletter_spec (n : Int) : PureC (env R) 94 [BY n] fun r => r = BB (isLet n) := by
  refine e94 rfl (p94_0 ?_)
  by_cases h1 : 97 ≤ n <;> by_cases h2 : n ≤ 122 <;> by_cases h3 : 65 ≤ n <;> by_cases h4 : n ≤ 90 <;> simp [QP, QI, isLet, h1, h2, h3, h4]
theorem digit_spec (n : Int) : PureC (env R) 113 [BY n] fun r => r = BB (isDig n) := by
  refine e113 rfl (p113_0 ?_)
  by_cases h1 : 48 ≤ n <;> by_cases h2 : n ≤ 57 <;> simp [QP, QI, isDig, h1, h2]
theorem rdigit_spec (n : Int) : PureC (env R) 114 [BY n] fun r => r = BB (isDig n) := by
  refine e114 rfl (p114_0 ?_)
  by_cases h1 : 48 ≤ n <;> by_cases h2 : n ≤ 57 <;> simp [QP, QI, isDig, h1, h2]
theorem wordByte_spec (n : Int) : PureC (env R) 92 [BY n] fun r => r = BB (isWB n) := by
  refine e92 rfl (p92_0 ?_)
  refine wCall_pure (letter_spec n) ?_
  rintro v rfl
  cases h1 : isLet n with
  | true => simp [QP, QI, isWB, h1]
  | false =>
    simp
    refine wCall_pure (digit_spec n) ?_
    rintro v rfl
    cases h2 : isDig n with
    | true => simp [QP, QI, isWB, h2]
    | false => cases h3 : (n == 95) <;> cases h4 : (n == 45) <;> simp [-beq_iff_eq, -beq_eq_false_iff_ne, QP, QI, isWB, h1, h2, h3, h4]
theorem rwordByte_spec (n : Int) : PureC (env R) 95 [BY n] fun r => r = BB (isWB n) := by
  refine e95 rfl (p95_0 ?_)
  refine wCall_pure (rletter_spec n) ?_
  rintro v rfl
  cases h1 : isLet n with
  | true => simp [QP, QI, isWB, h1]
  | false =>
    simp
    refine wCall_pure (rdigit_spec n) ?_
    rintro v rfl
    cases h2 : isDig n with
    | true => simp [QP, QI, isWB, h2]
    | false => cases h3 : (n == 95) <;> cases h4 : (n == 45) <;> simp [-beq_iff_eq, -beq_eq_false_iff_ne, QP, QI, isWB, h1, h2, h3, h4]
theorem identByte_spec (n : Int) : PureC (env R) 118 [BY n] fun r => r = BB (!(n == 45) && isWB n) := by
  refine e118 rfl (p118_0 ?_)
  cases h : (n == 45) with
  | true => simp [-beq_iff_eq, -beq_eq_false_iff_ne, QP, QI, h, bne]
  | false =>
    simp [-beq_iff_eq, -beq_eq_false_iff_ne, h, bne]
    refine wCall_pure (wordByte_spec n) ?_
    rintro v rfl
    simp [-beq_iff_eq, -beq_eq_false_iff_ne, QP, QI]
theorem every_loop {f : FuncId} {g : Int → Bool} {l : List UInt8} (hl : l.length < 2 ^ 60) (hf : ∀ n : Int, PureC (env R) f [BY n] fun r => r = BB (g n)) {Post : AV → Prop} :
    ∀ (j q : Nat), q + j = l.length → Post (BB ((l.drop q).all fun c => g c.toNat)) → P117_1 R 0 0 0 (SS l) (.func (.func f) [] []) (I64 q) ⟨[], []⟩ (QP Post) := by
  intro j
  induction j with
  | zero =>
    intro q hi hP
    refine p117_1 ?_
    have h1 : ¬ ((q : Int) < l.length) := by omega
    simp [h1]
    refine p117_3 ?_
    have h2 : l.drop q = [] := aLs0024 (by omega)
    rw [h2] at hP
    simpa [QP, QI] using hP
  | succ j ihj =>
    intro q hi hP
    refine p117_1 ?_
    have h1 : ((q : Int) < l.length) := by omega
    obtain ⟨c, hc⟩ : ∃ c, l[q]? = some c := ⟨_, aLs0008 (by omega)⟩
    rw [drop_cons hc] at hP
    simp [h1]
    refine p117_2 ?_
    refine ⟨by omega, c, by simpa using hc, ?_⟩
    refine wCall_pure (hf c.toNat) ?_
    rintro v rfl
    cases hg : g c.toNat with
    | true =>
      rw [aLs0077, hg] at hP
      simp
      refine p117_4 ?_
      simp only [wInt, xI]
      refine ⟨⟨aLs0000, aLs0000⟩, wAri_fit (by omega) (by omega) ?_⟩
      have := ihj (q + 1) (by omega) (by simpa using hP)
      simpa using this
    | false =>
      rw [aLs0077, hg] at hP
      simpa [QP, QI] using hP
theorem isIdent_spec {l : List UInt8} (hl : l.length < 2 ^ 60) : PureC (env R) 100 [SS l] fun r => r = BB (isId l) := by
  have ev : PureC (env R) 117 [SS l, .func (.func 118) [] []] fun r => r = BB (l.all fun c => !((c.toNat : Int) == 45) && isWB c.toNat) := by
    refine e117 (u0 := SS l) (u1 := .func (.func 118) [] []) (by simp) (p117_0 ?_)
    exact every_loop hl identByte_spec l.length 0 (by omega) (by simp)
  refine e100 (u0 := SS l) (by simp) (p100_0 ?_)
  cases l with
  | nil => simp [QP, QI, isId]
  | cons c l =>
    by_cases h1 : (c :: l).length ≤ 24
    · have h1' : (((c :: l).length : Nat) : Int) ≤ 24 := by omega
      have h1'' : ((l.length : Int) + 1 ≤ 24) := by simpa using h1'
      simp [h1'', wSidx]
      refine wCall_pure (letter_spec c.toNat) ?_
      rintro v rfl
      cases h2 : isLet c.toNat with
      | false => simp [QP, QI, isId, h2]
      | true =>
        simp
        refine wCall_pure ev ?_
        rintro v rfl
        have : l.length + 1 ≤ 24 := by simpa using h1
        simp [QP, QI, isId, h2, this]
    · have h1'' : ¬ ((l.length : Int) + 1 ≤ 24) := by simp at h1; omega
      have : ¬ (l.length + 1 ≤ 24) := by simpa using h1
      simp [QP, QI, h1'', isId, this]
theorem rident_loop {l : List UInt8} (hl : l.length < 2 ^ 60) {Post : AV → Prop} :
    ∀ (j q : Nat), q + j = l.length → Post (BB ((l.drop q).all fun c => !((c.toNat : Int) == 45) && isWB c.toNat)) → P67_2 R 0 0 0 (SS l) (I64 q) ⟨[], []⟩ (QP Post) := by
  intro j
  induction j with
  | zero =>
    intro q hi hP
    refine p67_2 ?_
    have h1 : ¬ ((q : Int) < l.length) := by omega
    simp [h1]
    refine p67_4 ?_
    have h2 : l.drop q = [] := aLs0024 (by omega)
    rw [h2] at hP
    simpa [QP, QI] using hP
  | succ j ihj =>
    intro q hi hP
    refine p67_2 ?_
    have h1 : ((q : Int) < l.length) := by omega
    obtain ⟨c, hc⟩ : ∃ c, l[q]? = some c := ⟨_, aLs0008 (by omega)⟩
    rw [drop_cons hc] at hP
    simp [h1]
    refine p67_3 ?_
    refine ⟨by omega, c, by simpa using hc, ?_⟩
    refine wCall_pure (rwordByte_spec c.toNat) ?_
    rintro v rfl
    cases hg : isWB c.toNat with
    | false =>
      rw [aLs0077, hg, Bool.and_false, aLs0063] at hP
      simpa [QP, QI] using hP
    | true =>
      rw [aLs0077, hg, aLs0051] at hP
      simp
      refine ⟨by omega, c, by simpa using hc, ?_⟩
      by_cases h45 : ((c.toNat : Int) = 45)
      · have h45' : ((c.toNat : Int) == 45) = true := by simpa using h45
        rw [h45', aLs0108, aLs0063] at hP
        simp [QP, QI]
        exact ⟨fun _ => hP, fun h => absurd h45 h⟩
      · have h45' : ((c.toNat : Int) == 45) = false := by simpa using h45
        rw [h45', aLs0109, aLs0097] at hP
        simp
        refine ⟨fun h => absurd h h45, fun _ => p67_5 ?_⟩
        simp only [wInt, xI]
        refine ⟨⟨aLs0000, aLs0000⟩, wAri_fit (by omega) (by omega) ?_⟩
        have := ihj (q + 1) (by omega) (by simpa using hP)
        simpa using this
theorem rident_spec {l : List UInt8} (hl : l.length < 2 ^ 60) : PureC (env R) 67 [SS l] fun r => r = BB (isId l) := by
  refine e67 (u0 := SS l) (by simp) (p67_0 ?_)
  cases l with
  | nil => simp [QP, QI, isId]
  | cons c l =>
    have h0 : ¬ ((l.length : Int) + 1 < 1) := by omega
    by_cases h1 : l.length + 1 ≤ 24
    · have h1'' : ¬ (24 < (l.length : Int) + 1) := by omega
      simp [h0, h1'', wSidx]
      refine wCall_pure (rletter_spec c.toNat) ?_
      rintro v rfl
      cases h2 : isLet c.toNat with
      | false => simp [QP, QI, isId, h2]
      | true =>
        simp
        refine p67_1 ?_
        refine rident_loop hl (c :: l).length 0 (by omega) ?_
        simp [isId, h2, h1]
    · have h1'' : (24 < (l.length : Int) + 1) := by omega
      simp [QP, QI, h0, h1'', isId, h1]
theorem keyword_spec {l : List UInt8} : PureC (env R) 68 [SS l] fun r => r = BB (resv.contains l) := by
  refine e68 (u0 := SS l) (by simp) (p68_0 ?_)
  by_cases h1 : l = [65, 110, 121]
  · subst h1; simp [QP, QI, resv]
  by_cases h2 : l = [78, 101, 118, 101, 114]
  · subst h2; simp [QP, QI, resv]
  by_cases h3 : l = [116, 117, 112, 108, 101]
  · subst h3; simp [QP, QI, resv]
  by_cases h4 : l = [117, 110, 105, 111, 110]
  · subst h4; simp [QP, QI, resv]
  by_cases h5 : l = [101, 120, 105, 115, 116, 115]
  · subst h5; simp [QP, QI, resv]
  have b1 : (l == [65, 110, 121]) = false := by simpa using h1
  have b2 : (l == [78, 101, 118, 101, 114]) = false := by simpa using h2
  have b3 : (l == [116, 117, 112, 108, 101]) = false := by simpa using h3
  have b4 : (l == [117, 110, 105, 111, 110]) = false := by simpa using h4
  have b5 : (l == [101, 120, 105, 115, 116, 115]) = false := by simpa using h5
  have b : resv.contains l = false := by simp [resv, h1, h2, h3, h4, h5]
  simp [-beq_iff_eq, -beq_eq_false_iff_ne, -List.contains_eq_mem, QP, QI, b, b1, b2, b3, b4, b5]
def strRows (l : List (List UInt8)) : List (List PV) := l.map fun s => [.sc (.string ⟨s.toArray⟩)]
theorem strRows_len (l : List (List UInt8)) : (strRows l).length = l.length := by simp [strRows]
theorem strRows_get {l : List (List UInt8)} {i : Nat} {n : List UInt8} (h : l[i]? = some n) : (strRows l)[i]? = some [.sc (.string ⟨n.toArray⟩)] := by simp [strRows, h]
theorem index_loop {l : List (List UInt8)} {w : List UInt8} {y : AV} (hy : RowsA y (strRows l)) (hl : l.length < 2 ^ 60) {Post : AV → Prop} :
    ∀ (j q : Nat), q + j = l.length → (∀ i : Int, decide (0 ≤ i) = (l.drop q).contains w → Post (I64 i)) → P108_1 R 0 0 0 y (SS w) (I64 l.length) (I64 q) ⟨[], []⟩ (QP Post) := by
  intro j
  induction j with
  | zero =>
    intro q hi hP
    refine p108_1 ?_
    have h1 : ¬ ((q : Int) < l.length) := by omega
    simp [h1]
    refine p108_3 ?_
    have h2 : l.drop q = [] := aLs0024 (by omega)
    rw [h2] at hP
    have := hP (-1) (by simp)
    simpa [QP, QI] using this
  | succ j ihj =>
    intro q hi hP
    refine p108_1 ?_
    have h1 : ((q : Int) < l.length) := by omega
    obtain ⟨t, ht⟩ : ∃ t, l[q]? = some t := ⟨_, aLs0008 (by omega)⟩
    rw [drop_cons ht] at hP
    simp [h1]
    refine p108_2 ?_
    refine wIdx_rows hy (row := [.sc (.string ⟨t.toArray⟩)]) (by omega) (by simpa using strRows_get ht) rfl (by omega) ?_
    by_cases hw : w = t
    · subst hw
      have := hP q (by simp)
      simpa [QP, QI] using this
    · simp [hw]
      refine p108_4 ?_
      simp only [wInt, xI]
      refine ⟨⟨aLs0000, aLs0000⟩, wAri_fit (by omega) (by omega) ?_⟩
      have := ihj (q + 1) (by omega) (fun i h => hP i (by rw [h]; simp [hw]))
      simpa using this
theorem containsS_spec {l : List (List UInt8)} {w : List UInt8} {y : AV} (hy : RowsA y (strRows l)) (hl : l.length < 2 ^ 60) : PureC (env R) 84 [y, SS w] fun r => r = BB (l.contains w) := by
  have hi : PureC (env R) 108 [y, SS w] fun r => ∃ i : Int, r = I64 i ∧ decide (0 ≤ i) = l.contains w := by
    refine e108 (u0 := y) (u1 := SS w) (by simp [hy.close]) (p108_0 ?_)
    simp [hy.lenA, strRows_len]
    exact index_loop hy hl l.length 0 (by omega) (fun i h => ⟨i, rfl, by simpa using h⟩)
  refine e84 (u0 := y) (u1 := SS w) (by simp [hy.close]) (p84_0 ?_)
  refine wCall_pure hi ?_
  rintro v ⟨i, rfl, h⟩
  simp only [wInt, xI]
  refine ⟨⟨aLs0000, aLs0000⟩, _, clP, ?_⟩
  rw [← h]
end
def first0 : List Ty → Bool
  | [] => false
  | t :: _ => clos 0 t
def shape (k : Int) (n : List UInt8) (i : Int) (ts : List Ty) : Bool :=
  bif k == 0 || k == 1 then ts.length == 0
  else bif k == 2 then isId n && !resv.contains n && decide (ts.length ≤ 6) && plainL ts
  else bif k == 3 then decide (ts.length ≤ 6)
  else bif k == 4 then decide (2 ≤ ts.length)
  else bif k == 5 then ts.length == 0 && decide (0 ≤ i) && decide (i ≤ 200)
  else bif k == 6 then ts.length == 2 && first0 ts
  else false
def root (k : Int) (n : List UInt8) (i : Int) (ts : List Ty) : Bool := (k == 2 || n == []) && (k == 5 || i == 0) && shape k n i ts
mutual
def valid : Ty → Bool
  | .mk k n i ts => root k n i ts && validL ts
def validL : List Ty → Bool
  | [] => true
  | t :: l => valid t && validL l
end
def okN (n : List UInt8) : Prop := n.length < 2 ^ 60
mutual
def okT : Ty → Prop
  | .mk _ n _ ts => okN n ∧ okTs ts
def okTs : List Ty → Prop
  | [] => True
  | t :: l => okT t ∧ okTs l
end
section
variable {R : Nat → Option (List PV)}
theorem env_G6 : (env R).G 6 = some (strRow resv) := rfl
theorem resv_rows : strRow resv = [.list (strRows resv)] := rfl
section
variable {k i : Int} {n : List UInt8} {ts : List Ty} {a : AV} {Post : AV → Prop}
theorem sh0 (ha : RowsA a (rowsT ts)) (hP : Post (BB (ts.length == 0))) : P78_2 R 0 0 0 (.ptr 0 0) (I64 k) (BB true) ⟨[[I64 k, SS n, I64 i, a]], []⟩ (QP Post) := by
  refine p78_2 ⟨fun _ => ?_, by simp⟩
  have e : ((ts.length : Int) == 0) = (ts.length == 0) := by
    rw [aLs0039, aLs0028, aLs0028]
    omega
  simpa [-beq_iff_eq, -beq_eq_false_iff_ne, QP, QI, ha.lenA, rowsT_len, e] using hP
theorem sh2 (ha : RowsA a (rowsT ts)) (hs : sizeL ts < 2 ^ 38) (hn : okN n) (hP : Post (BB (isId n && !resv.contains n && decide (ts.length ≤ 6) && plainL ts))) :
    P78_2 R 0 0 0 (.ptr 0 0) (I64 2) (BB false) ⟨[[I64 2, SS n, I64 i, a]], []⟩ (QP Post) := by
  have hlen := sizeL_len ts
  refine p78_2 ⟨by simp, fun _ => ⟨⟨rfl, rfl⟩, ⟨fun _ => ?_, by simp⟩⟩⟩
  simp only [wNew, wBox, wBoxZ, markT, wCond, wBuild, fillS, wO, setCells, wSt, wLd, wPart, LFE, wFad, alive, wInt, wStr, wGK, wGd, wPick, wExt, wLen, wSlen, wNot, wNil, okI, ceI, okB, ceB, okS, ceS, okL, ceL, okC, ceC, okO, ceO, okP, ceP, okG, ceG, okE, ceE, okR, ceR, okF, ceF, okX, ceX, okM, ceM, okN, ceN, okNf, ceNf, okNi, ceNi, ceA, roL, roC, roO, leL, leC, leO, tpP, tpC, tpO, clP, clC, clO, clF, clA, clT, clN, clL, nbP, nbC, nbO, nbN, nbL, toPVs, xI, xL, xM, xF, xG, g0, g1, lf]
  simp only [aLs0017, aLs0027, aLs0010, aLs0031, aLs0045]
  refine ⟨aLs0000, wCall_pure (isIdent_spec hn) ?_⟩
  rintro v rfl
  cases c1 : isId n with
  | false =>
    rw [c1] at hP
    simpa [QP, QI] using hP
  | true =>
    simp [env_G6, resv_rows]
    refine wCall_pure (containsS_spec (.list _) (by simp [resv])) ?_
    rintro v rfl
    cases c2 : resv.contains n with
    | true =>
      rw [c1, c2] at hP
      simpa [QP, QI] using hP
    | false =>
      rw [c1, c2] at hP
      by_cases c3 : ts.length ≤ 6
      · have c3' : ((ts.length : Int) ≤ 6) := by omega
        rw [aLs0033 c3] at hP
        simp [ha.lenA, rowsT_len, c3']
        refine wCall_pure (plainArgs_spec 2 n i ts hs a ha) ?_
        rintro v rfl
        simpa [QP, QI] using hP
      · have c3' : ¬ ((ts.length : Int) ≤ 6) := by omega
        rw [aLs0035 c3] at hP
        simpa [QP, QI, ha.lenA, rowsT_len, c3'] using hP
theorem sh3 (ha : RowsA a (rowsT ts)) (hP : Post (BB (decide (ts.length ≤ 6)))) : P78_2 R 0 0 0 (.ptr 0 0) (I64 3) (BB false) ⟨[[I64 3, SS n, I64 i, a]], []⟩ (QP Post) := by
  refine p78_2 ⟨by simp, fun _ => ⟨⟨rfl, rfl⟩, ⟨by simp, fun _ => ⟨⟨rfl, rfl⟩, ⟨fun _ => ?_, by simp⟩⟩⟩⟩⟩
  have e : decide ((ts.length : Int) ≤ 6) = decide (ts.length ≤ 6) := by
    rw [aLs0039, aLs0098, aLs0098]
    omega
  simpa [-decide_eq_true_eq, QP, QI, ha.lenA, rowsT_len, e] using hP
theorem sh4 (ha : RowsA a (rowsT ts)) (hP : Post (BB (decide (2 ≤ ts.length)))) : P78_2 R 0 0 0 (.ptr 0 0) (I64 4) (BB false) ⟨[[I64 4, SS n, I64 i, a]], []⟩ (QP Post) := by
  refine p78_2 ⟨by simp, fun _ => ⟨⟨rfl, rfl⟩, ⟨by simp, fun _ => ⟨⟨rfl, rfl⟩, ⟨by simp, fun _ => ⟨⟨rfl, rfl⟩, ⟨fun _ => ?_, by simp⟩⟩⟩⟩⟩⟩⟩
  have e : decide (2 ≤ (ts.length : Int)) = decide (2 ≤ ts.length) := by
    rw [aLs0039, aLs0098, aLs0098]
    omega
  simpa [-decide_eq_true_eq, QP, QI, ha.lenA, rowsT_len, e] using hP
theorem sh5 (ha : RowsA a (rowsT ts)) (hP : Post (BB (ts.length == 0 && decide (0 ≤ i) && decide (i ≤ 200)))) : P78_2 R 0 0 0 (.ptr 0 0) (I64 5) (BB false) ⟨[[I64 5, SS n, I64 i, a]], []⟩ (QP Post) := by
  refine p78_2 ⟨by simp, fun _ => ⟨⟨rfl, rfl⟩, ⟨by simp, fun _ => ⟨⟨rfl, rfl⟩, ⟨by simp, fun _ => ⟨⟨rfl, rfl⟩, ⟨by simp, fun _ => ⟨⟨rfl, rfl⟩, ⟨fun _ => ?_, by simp⟩⟩⟩⟩⟩⟩⟩⟩⟩
  cases ts with
  | cons t l =>
    have c' : ¬ ((l.length : Int) + 1 = 0) := by omega
    have b' : ((l.length : Int) + 1 == 0) = false := by simpa using c'
    simpa [-beq_iff_eq, -beq_eq_false_iff_ne, QP, QI, ha.lenA, rowsT_len, b'] using hP
  | nil =>
    by_cases c1 : 0 ≤ i
    · by_cases c2 : i ≤ 200
      · simpa [QP, QI, ha.lenA, rowsT_len, c1, c2] using hP
      · simpa [QP, QI, ha.lenA, rowsT_len, c1, c2] using hP
    · simpa [QP, QI, ha.lenA, rowsT_len, c1] using hP
theorem sh6 (ha : RowsA a (rowsT ts)) (hs : sizeL ts < 2 ^ 38) (hP : Post (BB (ts.length == 2 && first0 ts))) : P78_2 R 0 0 0 (.ptr 0 0) (I64 6) (BB false) ⟨[[I64 6, SS n, I64 i, a]], []⟩ (QP Post) := by
  refine p78_2 ⟨by simp, fun _ => ⟨⟨rfl, rfl⟩, ⟨by simp, fun _ => ⟨⟨rfl, rfl⟩, ⟨by simp, fun _ => ⟨⟨rfl, rfl⟩, ⟨by simp, fun _ => ⟨⟨rfl, rfl⟩, ⟨by simp, fun _ => ⟨⟨rfl, rfl⟩, ⟨fun _ => ?_, by simp⟩⟩⟩⟩⟩⟩⟩⟩⟩⟩⟩
  by_cases c : ts.length = 2
  · have c' : ((ts.length : Int) = 2) := by omega
    obtain ⟨t, l, rfl⟩ : ∃ t l, ts = t :: l := by
      cases ts with
      | nil => simp at c
      | cons t l => exact ⟨t, l, rfl⟩
    simp only [sizeL] at hs
    have e3 : PureC (env R) 102 [.agg ((rowT t).map .pv), I64 0] fun r => r = BB (clos 0 t) := closed_spec t (by omega) 0 (by omega) _ (TRep.of_row t)
    have hP' : Post (BB (clos 0 t)) := by
      have : l.length = 1 := by simpa using c
      simpa [this, first0] using hP
    have c'' : ((l.length : Int) + 1 = 2) := by simpa using c'
    simp [ha.lenA, rowsT_len, c'']
    refine wIdx_rows ha (row := rowT t) (by omega) (by simp [rowsT]) (rowT_len t) (by omega) ?_
    obtain ⟨k', n', x, es⟩ := t
    simp only [rowT, aLs0018, aLs0026] at e3
    simp [rowT]
    refine wCall_pure e3 ?_
    rintro v rfl
    simpa [QP, QI] using hP'
  · have c' : ¬ ((ts.length : Int) = 2) := by omega
    have b : (ts.length == 2) = false := by simpa using c
    rw [b] at hP
    have b' : ((ts.length : Int) == 2) = false := by simpa using c'
    simpa [-beq_iff_eq, -beq_eq_false_iff_ne, QP, QI, ha.lenA, rowsT_len, b'] using hP
theorem sh7 (h2 : ¬ k = 2) (h3 : ¬ k = 3) (h4 : ¬ k = 4) (h5 : ¬ k = 5) (h6 : ¬ k = 6) (hP : Post (BB false)) : P78_2 R 0 0 0 (.ptr 0 0) (I64 k) (BB false) ⟨[[I64 k, SS n, I64 i, a]], []⟩ (QP Post) := by
  refine p78_2 ⟨by simp, fun _ => ⟨⟨rfl, rfl⟩, ⟨by simp [h2], fun _ => ⟨⟨rfl, rfl⟩, ⟨by simp [h3], fun _ => ⟨⟨rfl, rfl⟩, ⟨by simp [h4], fun _ => ⟨⟨rfl, rfl⟩, ⟨by simp [h5], fun _ => ⟨⟨rfl, rfl⟩, ⟨by simp [h6], fun _ => p78_3 ?_⟩⟩⟩⟩⟩⟩⟩⟩⟩⟩⟩
  exact ⟨_, clP, hP⟩
theorem shape_points (ha : RowsA a (rowsT ts)) (hs : sizeL ts < 2 ^ 38) (hn : okN n) (hP : Post (BB (shape k n i ts))) : P78_1 R 0 0 0 (.ptr 0 0) ⟨[[I64 k, SS n, I64 i, a]], []⟩ (QP Post) := by
  refine p78_1 ?_
  by_cases h0 : k = 0
  · subst h0
    simp
    exact sh0 ha (by simpa [shape] using hP)
  by_cases h1 : k = 1
  · subst h1
    simp
    exact sh0 ha (by simpa [shape] using hP)
  have b0 : (k == 0) = false := by simpa using h0
  have b1 : (k == 1) = false := by simpa using h1
  simp [h0]
  have e : (BB (k == 1) : AV) = BB false := by rw [b1]
  rw [e]
  by_cases h2 : k = 2
  · subst h2
    exact sh2 ha hs hn (by simpa [shape] using hP)
  by_cases h3 : k = 3
  · subst h3
    exact sh3 ha (by simpa [shape] using hP)
  by_cases h4 : k = 4
  · subst h4
    exact sh4 ha (by simpa [shape] using hP)
  by_cases h5 : k = 5
  · subst h5
    exact sh5 ha (by simpa [shape] using hP)
  by_cases h6 : k = 6
  · subst h6
    exact sh6 ha hs (by simpa [shape] using hP)
  have b2 : (k == 2) = false := by simpa using h2
  have b3 : (k == 3) = false := by simpa using h3
  have b4 : (k == 4) = false := by simpa using h4
  have b5 : (k == 5) = false := by simpa using h5
  have b6 : (k == 6) = false := by simpa using h6
  rw [show shape k n i ts = false by simp only [shape, b0, b1, b2, b3, b4, b5, b6]; rfl] at hP
  exact sh7 h2 h3 h4 h5 h6 hP
end
theorem validNode_spec {k i : Int} {n : List UInt8} {ts : List Ty} {a : AV} (ha : RowsA a (rowsT ts)) (hs : sizeL ts < 2 ^ 38) (hn : okN n) : PureC (env R) 78 [.agg [I64 k, SS n, I64 i, a]] fun r => r = BB (root k n i ts) := by
  suffices H : ∀ Post : AV → Prop, Post (BB (root k n i ts)) → P78_0 R 0 0 0 (.agg [I64 k, SS n, I64 i, a]) ⟨[], []⟩ (QP Post) from
    e78 (u0 := .agg [I64 k, SS n, I64 i, a]) (by simp [ha.close]) (H _ rfl)
  intro Post hP
  refine p78_0 ?_
  unfold root at hP
  cases b2 : (k == 2) with
  | true =>
    have e2 : k = 2 := by simpa using b2
    subst e2
    by_cases hi : i = 0
    · subst hi
      simp [ha.ok]
      exact shape_points ha hs hn (by simpa using hP)
    · have bi : (i == 0) = false := by simpa using hi
      rw [bi] at hP
      simpa [QP, QI, ha.ok, hi, bne, bi] using hP
  | false =>
    have e2 : ¬ k = 2 := by simpa using b2
    rw [b2] at hP
    by_cases hn0 : n = []
    · subst hn0
      cases b5 : (k == 5) with
      | true =>
        have e5 : k = 5 := by simpa using b5
        subst e5
        simp [ha.ok]
        exact shape_points ha hs hn (by simpa using hP)
      | false =>
        have e5 : ¬ k = 5 := by simpa using b5
        rw [b5] at hP
        by_cases hi : i = 0
        · subst hi
          simp [ha.ok, e2, e5, bne, b2, b5]
          exact shape_points ha hs hn (by simpa using hP)
        · have bi : (i == 0) = false := by simpa using hi
          rw [bi] at hP
          simpa [QP, QI, ha.ok, e2, e5, hi, bne, b2, b5, bi] using hP
    · have bn : (n == []) = false := by simpa using hn0
      rw [bn] at hP
      simpa [QP, QI, ha.ok, e2, hn0, bne, b2, bn] using hP
end
def verdict (t : Ty) : Int := bif decide (200 < size t) || decide (12 < depth t) then 4 else bif valid t then 0 else 2
section
variable {R : Nat → Option (List PV)}
mutual
theorem validNodes_spec : ∀ (t : Ty), size t < 2 ^ 38 → okT t → ∀ (x : AV), TRep t x → PureC (env R) 54 [x] fun r => r = BB (valid t)
  | .mk k n i ts, h, ho, x, hx => by
    obtain ⟨a, rfl, ha⟩ := hx
    simp only [size] at h
    simp only [okT] at ho
    have ih := validNodesL_spec ts (by omega) ho.2
    refine e54 (u0 := .agg [I64 k, SS n, I64 i, a]) (by simp [ha.close]) (p54_0 ?_)
    simp [ha.ok]
    refine wCall_pure (validNode_spec ha (by omega) ho.1) ?_
    rintro v rfl
    cases hr : root k n i ts with
    | false => simp [QP, QI, valid, hr]
    | true =>
      have hf : ∀ t ∈ ts, PureC (env R) 80 [.agg ((rowT t).map .pv)] fun r => r = BB (!valid t) := by
        intro t ht
        have e := ih t ht
        refine e80 (by cases t; simp [rowT, noIdL, noId]) (p80_0 ?_)
        obtain ⟨k', n', x, es⟩ := t
        simp only [rowT, aLs0018, aLs0026] at e
        simp [rowT]
        refine wCall_pure e ?_
        rintro v rfl
        simp [QP, QI]
      simp
      refine wCall_pure (contains_spec ha (by omega) hf) ?_
      rintro v rfl
      have : (!ts.any fun t => !valid t) = validL ts := by
        clear ih hf ha h hr ho
        induction ts with
        | nil => rfl
        | cons t l ih => simp [validL, ← ih]
      simp [QP, QI, valid, hr, ← this]
theorem validNodesL_spec : ∀ (l : List Ty), sizeL l < 2 ^ 38 → okTs l → ∀ t ∈ l, PureC (env R) 54 [.agg ((rowT t).map .pv)] fun r => r = BB (valid t)
  | [], _, _, _, h => by cases h
  | e :: l, ho, hk, a, h => by
    simp only [sizeL] at ho
    simp only [okTs] at hk
    rcases aLs0006.1 h with h' | h'
    · rw [h']
      exact validNodes_spec e (by omega) hk.1 _ (TRep.of_row e)
    · exact validNodesL_spec l (by omega) hk.2 a h'
end
section
variable {k i : Int} {n : List UInt8} {ts : List Ty} {a : AV} {Post : AV → Prop}
theorem wf_loop (ha : RowsA a (rowsT ts)) (hl : sizeL ts < 2 ^ 38) (ih : ∀ t ∈ ts, PureC (env R) 42 [.agg ((rowT t).map .pv)] fun r => r = BB (valid t)) :
    ∀ (j q : Nat), q + j = ts.length → Post (BB (validL (ts.drop q))) → P42_6 R 0 0 0 (.ptr 0 0) (I64 ts.length) (I64 q) ⟨[[I64 k, SS n, I64 i, a]], []⟩ (QP Post) := by
  have h60 := sizeL_len ts
  intro j
  induction j with
  | zero =>
    intro q hi hP
    refine p42_6 ?_
    have h1 : ¬ ((q : Int) < ts.length) := by omega
    simp [h1]
    refine p42_9 ?_
    have h2 : ts.drop q = [] := aLs0024 (by omega)
    rw [h2] at hP
    simpa [QP, QI, validL] using hP
  | succ j ihj =>
    intro q hi hP
    refine p42_6 ?_
    have h1 : ((q : Int) < ts.length) := by omega
    obtain ⟨t, ht⟩ : ∃ t, ts[q]? = some t := ⟨_, aLs0008 (by omega)⟩
    have hd := drop_cons ht
    rw [hd] at hP
    simp only [validL] at hP
    simp [h1]
    refine p42_8 ?_
    simp
    refine wIdx_rows ha (row := rowT t) (by omega) (by simpa using rowsT_get ht) (rowT_len t) (by omega) ?_
    have e3 := ih t (aLs0013 ht)
    cases hg : valid t with
    | true =>
      rw [hg] at e3 hP
      obtain ⟨k', n', x, es⟩ := t
      simp only [rowT, aLs0018, aLs0026] at e3
      simp [rowT]
      refine wCall_pure e3 ?_
      rintro v rfl
      simp
      refine p42_11 ?_
      simp only [wInt, xI]
      refine ⟨⟨aLs0000, aLs0000⟩, wAri_fit (by omega) (by omega) ?_⟩
      have := ihj (q + 1) (by omega) (by simpa using hP)
      simpa using this
    | false =>
      rw [hg] at e3 hP
      obtain ⟨k', n', x, es⟩ := t
      simp only [rowT, aLs0018, aLs0026] at e3
      simp [rowT]
      refine wCall_pure e3 ?_
      rintro v rfl
      simpa [QP, QI] using hP
theorem wf_args (ha : RowsA a (rowsT ts)) (hl : sizeL ts < 2 ^ 38) (ih : ∀ t ∈ ts, PureC (env R) 42 [.agg ((rowT t).map .pv)] fun r => r = BB (valid t)) (hP : Post (BB (validL ts))) :
    P42_4 R 0 0 0 (.ptr 0 0) (I64 ts.length) ⟨[[I64 k, SS n, I64 i, a]], []⟩ (QP Post) :=
  p42_4 (wf_loop ha hl ih ts.length 0 (by omega) (by simpa using hP))
theorem wfp_loop (ha : RowsA a (rowsT ts)) (hl : sizeL ts < 2 ^ 38) (ih : ∀ t ∈ ts, PureC (env R) 42 [.agg ((rowT t).map .pv)] fun r => r = BB (valid t)) :
    ∀ (j q : Nat), q + j = ts.length → Post (BB (plainL (ts.drop q) && validL ts)) → P42_5 R 0 0 0 (.ptr 0 0) (I64 ts.length) (I64 q) ⟨[[I64 k, SS n, I64 i, a]], []⟩ (QP Post) := by
  have h60 := sizeL_len ts
  intro j
  induction j with
  | zero =>
    intro q hi hP
    refine p42_5 ?_
    have h1 : ¬ ((q : Int) < ts.length) := by omega
    simp [h1]
    have h2 : ts.drop q = [] := aLs0024 (by omega)
    rw [h2] at hP
    exact wf_args ha hl ih (by simpa [plainL] using hP)
  | succ j ihj =>
    intro q hi hP
    refine p42_5 ?_
    have h1 : ((q : Int) < ts.length) := by omega
    obtain ⟨t, ht⟩ : ∃ t, ts[q]? = some t := ⟨_, aLs0008 (by omega)⟩
    have hd := drop_cons ht
    rw [hd] at hP
    simp only [plainL] at hP
    simp [h1]
    refine p42_7 ?_
    simp
    refine wIdx_rows ha (row := rowT t) (by omega) (by simpa using rowsT_get ht) (rowT_len t) (by omega) ?_
    have e3 := rplains_spec (R := R) ts hl t (aLs0013 ht)
    cases hg : plain t with
    | true =>
      rw [hg] at e3 hP
      obtain ⟨k', n', x, es⟩ := t
      simp only [rowT, aLs0018, aLs0026] at e3
      simp [rowT]
      refine wCall_pure e3 ?_
      rintro v rfl
      simp
      refine p42_10 ?_
      simp only [wInt, xI]
      refine ⟨⟨aLs0000, aLs0000⟩, wAri_fit (by omega) (by omega) ?_⟩
      have := ihj (q + 1) (by omega) (by simpa using hP)
      simpa using this
    | false =>
      rw [hg] at e3 hP
      obtain ⟨k', n', x, es⟩ := t
      simp only [rowT, aLs0018, aLs0026] at e3
      simp [rowT]
      refine wCall_pure e3 ?_
      rintro v rfl
      simpa [QP, QI] using hP
theorem wf0 (hP : Post (BB (ts.length == 0 && validL ts))) : P42_2 R 0 0 0 (.ptr 0 0) (I64 ts.length) (I64 k) (BB true) ⟨[[I64 k, SS n, I64 i, a]], []⟩ (QP Post) := by
  refine p42_2 ⟨fun _ => ?_, by simp⟩
  cases ts with
  | nil => simpa [QP, QI, validL] using hP
  | cons t l =>
    have b : ((l.length : Int) + 1 == 0) = false := by
      have : ¬ ((l.length : Int) + 1 = 0) := by omega
      simpa using this
    simpa [-beq_iff_eq, -beq_eq_false_iff_ne, QP, QI, b] using hP
theorem wf5 (hP : Post (BB (ts.length == 0 && decide (0 ≤ i) && decide (i ≤ 200) && validL ts))) : P42_2 R 0 0 0 (.ptr 0 0) (I64 ts.length) (I64 5) (BB false) ⟨[[I64 5, SS n, I64 i, a]], []⟩ (QP Post) := by
  refine p42_2 ⟨by simp, fun _ => ⟨⟨rfl, rfl⟩, ⟨fun _ => ?_, by simp⟩⟩⟩
  cases ts with
  | cons t l =>
    have b : ((l.length : Int) + 1 == 0) = false := by
      have : ¬ ((l.length : Int) + 1 = 0) := by omega
      simpa using this
    simpa [-beq_iff_eq, -beq_eq_false_iff_ne, QP, QI, b] using hP
  | nil =>
    by_cases c1 : 0 ≤ i
    · by_cases c2 : i ≤ 200
      · simpa [QP, QI, c1, c2, validL] using hP
      · simpa [QP, QI, c1, c2, validL] using hP
    · simpa [QP, QI, c1, validL] using hP
theorem wf2 (ha : RowsA a (rowsT ts)) (hl : sizeL ts < 2 ^ 38) (hn : okN n) (ih : ∀ t ∈ ts, PureC (env R) 42 [.agg ((rowT t).map .pv)] fun r => r = BB (valid t))
    (hP : Post (BB (isId n && !resv.contains n && decide (ts.length ≤ 6) && plainL ts && validL ts))) : P42_2 R 0 0 0 (.ptr 0 0) (I64 ts.length) (I64 2) (BB false) ⟨[[I64 2, SS n, I64 i, a]], []⟩ (QP Post) := by
  refine p42_2 ⟨by simp, fun _ => ⟨⟨rfl, rfl⟩, ⟨by simp, fun _ => ⟨⟨rfl, rfl⟩, ⟨fun _ => ?_, by simp⟩⟩⟩⟩⟩
  simp only [wNew, wBox, wBoxZ, markT, wCond, wBuild, fillS, wO, setCells, wSt, wLd, wPart, LFE, wFad, alive, wInt, wStr, wGK, wGd, wPick, wExt, wLen, wSlen, wNot, wNil, okI, ceI, okB, ceB, okS, ceS, okL, ceL, okC, ceC, okO, ceO, okP, ceP, okG, ceG, okE, ceE, okR, ceR, okF, ceF, okX, ceX, okM, ceM, okN, ceN, okNf, ceNf, okNi, ceNi, ceA, roL, roC, roO, leL, leC, leO, tpP, tpC, tpO, clP, clC, clO, clF, clA, clT, clN, clL, nbP, nbC, nbO, nbN, nbL, toPVs, xI, xL, xM, xF, xG, g0, g1, lf]
  simp only [aLs0017, aLs0027, aLs0010, aLs0031, aLs0045]
  refine ⟨aLs0000, wCall_pure (rident_spec hn) ?_⟩
  rintro v rfl
  cases c1 : isId n with
  | false =>
    rw [c1] at hP
    simpa [QP, QI] using hP
  | true =>
    simp
    refine wCall_pure keyword_spec ?_
    rintro v rfl
    cases c2 : resv.contains n with
    | true =>
      rw [c1, c2] at hP
      simpa [QP, QI] using hP
    | false =>
      rw [c1, c2] at hP
      by_cases c3 : ts.length ≤ 6
      · have c3' : ¬ (6 < (ts.length : Int)) := by omega
        rw [aLs0033 c3] at hP
        simp [c3']
        exact p42_3 (wfp_loop ha hl ih ts.length 0 (by omega) (by simpa using hP))
      · have c3' : (6 < (ts.length : Int)) := by omega
        rw [aLs0035 c3] at hP
        simpa [QP, QI, c3'] using hP
theorem wf3 (ha : RowsA a (rowsT ts)) (hl : sizeL ts < 2 ^ 38) (ih : ∀ t ∈ ts, PureC (env R) 42 [.agg ((rowT t).map .pv)] fun r => r = BB (valid t)) (hP : Post (BB (decide (ts.length ≤ 6) && validL ts))) :
    P42_2 R 0 0 0 (.ptr 0 0) (I64 ts.length) (I64 3) (BB false) ⟨[[I64 3, SS n, I64 i, a]], []⟩ (QP Post) := by
  refine p42_2 ⟨by simp, fun _ => ⟨⟨rfl, rfl⟩, ⟨by simp, fun _ => ⟨⟨rfl, rfl⟩, ⟨by simp, fun _ => ⟨⟨rfl, rfl⟩, ⟨fun _ => ?_, by simp⟩⟩⟩⟩⟩⟩⟩
  by_cases c : ts.length ≤ 6
  · have c' : ¬ (6 < (ts.length : Int)) := by omega
    rw [aLs0033 c] at hP
    simp [c']
    exact wf_args ha hl ih (by simpa using hP)
  · have c' : (6 < (ts.length : Int)) := by omega
    rw [aLs0035 c] at hP
    simpa [QP, QI, c'] using hP
theorem wf4 (ha : RowsA a (rowsT ts)) (hl : sizeL ts < 2 ^ 38) (ih : ∀ t ∈ ts, PureC (env R) 42 [.agg ((rowT t).map .pv)] fun r => r = BB (valid t)) (hP : Post (BB (decide (2 ≤ ts.length) && validL ts))) :
    P42_2 R 0 0 0 (.ptr 0 0) (I64 ts.length) (I64 4) (BB false) ⟨[[I64 4, SS n, I64 i, a]], []⟩ (QP Post) := by
  refine p42_2 ⟨by simp, fun _ => ⟨⟨rfl, rfl⟩, ⟨by simp, fun _ => ⟨⟨rfl, rfl⟩, ⟨by simp, fun _ => ⟨⟨rfl, rfl⟩, ⟨by simp, fun _ => ⟨⟨rfl, rfl⟩, ⟨fun _ => ?_, by simp⟩⟩⟩⟩⟩⟩⟩⟩⟩
  by_cases c : 2 ≤ ts.length
  · have c' : ¬ ((ts.length : Int) < 2) := by omega
    rw [aLs0033 c] at hP
    simp [c']
    exact wf_args ha hl ih (by simpa using hP)
  · have c' : ((ts.length : Int) < 2) := by omega
    rw [aLs0035 c] at hP
    simpa [QP, QI, c'] using hP
theorem wf6 (ha : RowsA a (rowsT ts)) (hl : sizeL ts < 2 ^ 38) (ih : ∀ t ∈ ts, PureC (env R) 42 [.agg ((rowT t).map .pv)] fun r => r = BB (valid t)) (hP : Post (BB (ts.length == 2 && first0 ts && validL ts))) :
    P42_2 R 0 0 0 (.ptr 0 0) (I64 ts.length) (I64 6) (BB false) ⟨[[I64 6, SS n, I64 i, a]], []⟩ (QP Post) := by
  refine p42_2 ⟨by simp, fun _ => ⟨⟨rfl, rfl⟩, ⟨by simp, fun _ => ⟨⟨rfl, rfl⟩, ⟨by simp, fun _ => ⟨⟨rfl, rfl⟩, ⟨by simp, fun _ => ⟨⟨rfl, rfl⟩, ⟨by simp, fun _ => ⟨⟨rfl, rfl⟩, ⟨fun _ => ?_, by simp⟩⟩⟩⟩⟩⟩⟩⟩⟩⟩⟩
  by_cases c : ts.length = 2
  · obtain ⟨t, l, rfl⟩ : ∃ t l, ts = t :: l := by
      cases ts with
      | nil => simp at c
      | cons t l => exact ⟨t, l, rfl⟩
    have hl' := hl
    simp only [sizeL] at hl'
    have e3 : PureC (env R) 70 [.agg ((rowT t).map .pv)] fun r => r = BB (clos 0 t) := termClosed_spec (by omega) (TRep.of_row t)
    have hP' : Post (BB (clos 0 t && validL (t :: l))) := by
      rw [show (t :: l).length == 2 by simpa using c] at hP
      simpa [first0] using hP
    have b : (((t :: l).length : Int) != 2) = false := by
      rw [c]; rfl
    simp only [wNew, wBox, wBoxZ, markT, wCond, wBuild, fillS, wO, setCells, wSt, wLd, wPart, LFE, wFad, alive, wInt, wStr, wGK, wGd, wPick, wExt, wLen, wSlen, wNot, wNil, okI, ceI, okB, ceB, okS, ceS, okL, ceL, okC, ceC, okO, ceO, okP, ceP, okG, ceG, okE, ceE, okR, ceR, okF, ceF, okX, ceX, okM, ceM, okN, ceN, okNf, ceNf, okNi, ceNi, ceA, roL, roC, roO, leL, leC, leO, tpP, tpC, tpO, clP, clC, clO, clF, clA, clT, clN, clL, nbP, nbC, nbO, nbN, nbL, toPVs, b, xI, xL, xM, xF, xG, g0, g1, lf]
    refine ⟨⟨aLs0000, aLs0000⟩, ?_⟩
    simp
    refine wIdx_rows ha (row := rowT t) (by omega) (by simp [rowsT]) (rowT_len t) (by omega) ?_
    obtain ⟨k', n', x, es⟩ := t
    simp only [rowT, aLs0018, aLs0026] at e3
    simp [rowT]
    refine wCall_pure e3 ?_
    rintro v rfl
    cases hc : clos 0 (.mk k' n' x es) with
    | false =>
      rw [hc] at hP'
      simpa [QP, QI] using hP'
    | true =>
      rw [hc] at hP'
      simp
      have := wf_args (n := n) (k := 6) (i := i) ha hl ih (by simpa using hP')
      simpa using this
  · have c' : ¬ ((ts.length : Int) = 2) := by omega
    have b : (ts.length == 2) = false := by simpa using c
    rw [b] at hP
    have b' : ((ts.length : Int) != 2) = true := by simpa using c'
    simpa [-bne_iff_ne, QP, QI, b'] using hP
theorem wf7 (h5 : ¬ k = 5) (h2 : ¬ k = 2) (h3 : ¬ k = 3) (h4 : ¬ k = 4) (h6 : ¬ k = 6) (hP : Post (BB false)) : P42_2 R 0 0 0 (.ptr 0 0) (I64 ts.length) (I64 k) (BB false) ⟨[[I64 k, SS n, I64 i, a]], []⟩ (QP Post) := by
  refine p42_2 ⟨by simp, fun _ => ⟨⟨rfl, rfl⟩, ⟨by simp [h5], fun _ => ⟨⟨rfl, rfl⟩, ⟨by simp [h2], fun _ => ⟨⟨rfl, rfl⟩, ⟨by simp [h3], fun _ => ⟨⟨rfl, rfl⟩, ⟨by simp [h4], fun _ => ⟨⟨rfl, rfl⟩, ⟨by simp [h6], fun _ => ?_⟩⟩⟩⟩⟩⟩⟩⟩⟩⟩⟩
  exact ⟨_, clP, hP⟩
theorem wf_points (ha : RowsA a (rowsT ts)) (hs : sizeL ts < 2 ^ 38) (hn : okN n) (ih : ∀ t ∈ ts, PureC (env R) 42 [.agg ((rowT t).map .pv)] fun r => r = BB (valid t)) (hP : Post (BB (shape k n i ts && validL ts))) :
    P42_1 R 0 0 0 (.ptr 0 0) (I64 ts.length) ⟨[[I64 k, SS n, I64 i, a]], []⟩ (QP Post) := by
  refine p42_1 ?_
  by_cases h0 : k = 0
  · subst h0
    simp
    exact wf0 (by simpa [shape] using hP)
  by_cases h1 : k = 1
  · subst h1
    simp
    exact wf0 (by simpa [shape] using hP)
  have b0 : (k == 0) = false := by simpa using h0
  have b1 : (k == 1) = false := by simpa using h1
  simp [h0]
  have e : (BB (k == 1) : AV) = BB false := by rw [b1]
  rw [e]
  by_cases h2 : k = 2
  · subst h2
    exact wf2 ha hs hn ih (by simpa [shape] using hP)
  by_cases h3 : k = 3
  · subst h3
    exact wf3 ha hs ih (by simpa [shape] using hP)
  by_cases h4 : k = 4
  · subst h4
    exact wf4 ha hs ih (by simpa [shape] using hP)
  by_cases h5 : k = 5
  · subst h5
    exact wf5 (by simpa [shape] using hP)
  by_cases h6 : k = 6
  · subst h6
    exact wf6 ha hs ih (by simpa [shape] using hP)
  have b2 : (k == 2) = false := by simpa using h2
  have b3 : (k == 3) = false := by simpa using h3
  have b4 : (k == 4) = false := by simpa using h4
  have b5 : (k == 5) = false := by simpa using h5
  have b6 : (k == 6) = false := by simpa using h6
  rw [show shape k n i ts = false by simp only [shape, b0, b1, b2, b3, b4, b5, b6]; rfl] at hP
  exact wf7 h5 h2 h3 h4 h6 hP
end
end
section
variable {R : Nat → Option (List PV)}
mutual
theorem wf_spec : ∀ (t : Ty), size t < 2 ^ 38 → okT t → ∀ (x : AV), TRep t x → PureC (env R) 42 [x] fun r => r = BB (valid t)
  | .mk k n i ts, h, ho, x, hx => by
    obtain ⟨a, rfl, ha⟩ := hx
    simp only [size] at h
    simp only [okT] at ho
    have hs : sizeL ts < 2 ^ 38 := by omega
    have hn := ho.1
    have ih := wfs_spec ts hs ho.2
    suffices H : ∀ Post : AV → Prop, Post (BB (valid (.mk k n i ts))) → P42_0 R 0 0 0 (.agg [I64 k, SS n, I64 i, a]) ⟨[], []⟩ (QP Post) from
      e42 (u0 := .agg [I64 k, SS n, I64 i, a]) (by simp [ha.close]) (H _ rfl)
    intro Post hP
    refine p42_0 ?_
    simp only [valid] at hP
    unfold root at hP
    cases b2 : (k == 2) with
    | true =>
      have e2 : k = 2 := by simpa using b2
      subst e2
      by_cases hi : i = 0
      · subst hi
        simp [ha.ok, ha.lenA, rowsT_len]
        exact wf_points ha hs hn ih (by simpa using hP)
      · have bi : (i == 0) = false := by simpa using hi
        rw [bi] at hP
        simpa [QP, QI, ha.ok, ha.lenA, rowsT_len, hi, bne, bi] using hP
    | false =>
      have e2 : ¬ k = 2 := by simpa using b2
      rw [b2] at hP
      by_cases hn0 : n = []
      · subst hn0
        cases b5 : (k == 5) with
        | true =>
          have e5 : k = 5 := by simpa using b5
          subst e5
          simp [ha.ok, ha.lenA, rowsT_len]
          exact wf_points ha hs hn ih (by simpa using hP)
        | false =>
          have e5 : ¬ k = 5 := by simpa using b5
          rw [b5] at hP
          by_cases hi : i = 0
          · subst hi
            simp [ha.ok, ha.lenA, rowsT_len, e2, e5, bne, b2, b5]
            exact wf_points ha hs hn ih (by simpa using hP)
          · have bi : (i == 0) = false := by simpa using hi
            rw [bi] at hP
            simpa [QP, QI, ha.ok, ha.lenA, rowsT_len, e2, e5, hi, bne, b2, b5, bi] using hP
      · have bn : (n == []) = false := by simpa using hn0
        rw [bn] at hP
        simpa [QP, QI, ha.ok, ha.lenA, rowsT_len, e2, hn0, bne, b2, bn] using hP
theorem wfs_spec : ∀ (l : List Ty), sizeL l < 2 ^ 38 → okTs l → ∀ t ∈ l, PureC (env R) 42 [.agg ((rowT t).map .pv)] fun r => r = BB (valid t)
  | [], _, _, _, h => by cases h
  | e :: l, ho, hk, a, h => by
    simp only [sizeL] at ho
    simp only [okTs] at hk
    rcases aLs0006.1 h with h' | h'
    · rw [h']
      exact wf_spec e (by omega) hk.1 _ (TRep.of_row e)
    · exact wfs_spec l (by omega) hk.2 a h'
end
theorem validate_small {t : Ty} (h : size t < 2 ^ 38) (ho : okT t) {x : AV} (hx : TRep t x) : PureC (env R) 28 [x] fun r => r = I64 (verdict t) := by
  have e1 := size_spec (R := R) t (by omega) x hx
  have e2 := depth_spec (R := R) t (by omega) x hx
  have e3 := validNodes_spec (R := R) t h ho x hx
  have hv : verdict t = bif decide (200 < size t) || decide (12 < depth t) then 4 else bif valid t then 0 else 2 := rfl
  generalize hz : size t = z at *
  generalize hd : depth t = d at *
  generalize hw : valid t = w at *
  obtain ⟨k, n, i, ts⟩ := t
  obtain ⟨a, rfl, ha⟩ := hx
  refine e28 (u0 := .agg [I64 k, SS n, I64 i, a]) (by simp [ha.close]) (p28_0 ?_)
  simp [ha.ok]
  refine wCall_pure e1 ?_
  rintro v rfl
  have fin : ∀ b : Bool, b = (decide (200 < z) || decide (12 < d)) → wCond (BB b) (QP (fun r => r = I64 (verdict (.mk k n i ts))) (I64 4) ⟨[[I64 k, SS n, I64 i, a]], []⟩)
      (wLd (env R) ⟨[[I64 k, SS n, I64 i, a]], []⟩ (some 4) (.ptr 0 0) fun a13 => wCall (env R) (LFE (env R) 28 0 0 0) (.func (.func 54) [] []) [a13] ⟨[[I64 k, SS n, I64 i, a]], []⟩ fun a14 s1x9 => wNot a14 fun a15 => wCond a15 (QP (fun r => r = I64 (verdict (.mk k n i ts))) (I64 2) s1x9) (P28_1 R 0 0 0 s1x9 (QP fun r => r = I64 (verdict (.mk k n i ts))))) := by
    rintro b rfl
    cases hb : (decide (200 < z) || decide (12 < d)) with
    | true => simp [QP, QI, hv, hb]
    | false =>
      simp
      refine wCall_pure e3 ?_
      rintro v rfl
      cases w with
      | false => simp [QP, QI, hv, hb]
      | true =>
        simp
        refine p28_1 ?_
        simp [QP, QI, hv, hb]
  by_cases c1 : 200 < z
  · have c1' : (200 < (z : Int)) := by omega
    have c1n : ¬ ((z : Int) ≤ 200) := by omega
    have := fin true (by simp [c1])
    simpa [c1', c1n] using this
  · have c1' : ¬ (200 < (z : Int)) := by omega
    have c1n : ((z : Int) ≤ 200) := by omega
    simp [c1', c1n]
    refine wCall_pure e2 ?_
    rintro v rfl
    by_cases c2 : 12 < d
    · have c2' : (12 < (d : Int)) := by omega
      have c2n : ¬ ((d : Int) ≤ 12) := by omega
      have := fin true (by simp [c2])
      simpa [c1', c1n, c2', c2n] using this
    · have c2' : ¬ (12 < (d : Int)) := by omega
      have c2n : ((d : Int) ≤ 12) := by omega
      have := fin false (by simp [c1, c2])
      simpa [c1', c1n, c2', c2n] using this
theorem validate_spec {t : Ty} (h : size t < 2 ^ 60) (ho : okT t) {x : AV} (hx : TRep t x) : PureC (env R) 28 [x] fun r => r = I64 (verdict t) := by
  by_cases hs : size t < 2 ^ 38
  · exact validate_small hs ho hx
  have e1 := size_spec (R := R) t (by omega) x hx
  have hv : verdict t = 4 := by
    unfold verdict
    rw [aLs0033 (show 200 < size t by omega)]
    rfl
  rw [hv]
  generalize hz : size t = z at *
  obtain ⟨k, n, i, ts⟩ := t
  obtain ⟨a, rfl, ha⟩ := hx
  refine e28 (u0 := .agg [I64 k, SS n, I64 i, a]) (by simp [ha.close]) (p28_0 ?_)
  simp [ha.ok]
  refine wCall_pure e1 ?_
  rintro v rfl
  have c1' : (200 < (z : Int)) := by omega
  have c1n : ¬ ((z : Int) ≤ 200) := by omega
  simp [QP, QI, c1', c1n]
theorem rvalidate_small {t : Ty} (h : size t < 2 ^ 38) (ho : okT t) {x : AV} (hx : TRep t x) : PureC (env R) 14 [x] fun r => r = I64 (verdict t) := by
  have e1 := rsize_spec (R := R) t (by omega) x hx
  have e2 := rdepth_spec (R := R) t (by omega) x hx
  have e3 := wf_spec (R := R) t h ho x hx
  have hv : verdict t = bif decide (200 < size t) || decide (12 < depth t) then 4 else bif valid t then 0 else 2 := rfl
  generalize hz : size t = z at *
  generalize hd : depth t = d at *
  generalize hw : valid t = w at *
  obtain ⟨k, n, i, ts⟩ := t
  obtain ⟨a, rfl, ha⟩ := hx
  refine e14 (u0 := .agg [I64 k, SS n, I64 i, a]) (by simp [ha.close]) (p14_0 ?_)
  simp [ha.ok]
  refine wCall_pure e1 ?_
  rintro v rfl
  have fin : ∀ b : Bool, b = (decide (200 < z) || decide (12 < d)) → wCond (BB b) (QP (fun r => r = I64 (verdict (.mk k n i ts))) (I64 4) ⟨[[I64 k, SS n, I64 i, a]], []⟩)
      (wLd (env R) ⟨[[I64 k, SS n, I64 i, a]], []⟩ (some 4) (.ptr 0 0) fun a13 => wCall (env R) (LFE (env R) 14 0 0 0) (.func (.func 42) [] []) [a13] ⟨[[I64 k, SS n, I64 i, a]], []⟩ fun a14 s1x9 => wNot a14 fun a15 => wCond a15 (QP (fun r => r = I64 (verdict (.mk k n i ts))) (I64 2) s1x9) (P14_1 R 0 0 0 s1x9 (QP fun r => r = I64 (verdict (.mk k n i ts))))) := by
    rintro b rfl
    cases hb : (decide (200 < z) || decide (12 < d)) with
    | true => simp [QP, QI, hv, hb]
    | false =>
      simp
      refine wCall_pure e3 ?_
      rintro v rfl
      cases w with
      | false => simp [QP, QI, hv, hb]
      | true =>
        simp
        refine p14_1 ?_
        simp [QP, QI, hv, hb]
  by_cases c1 : 200 < z
  · have c1' : (200 < (z : Int)) := by omega
    have c1n : ¬ ((z : Int) ≤ 200) := by omega
    have := fin true (by simp [c1])
    simpa [c1', c1n] using this
  · have c1' : ¬ (200 < (z : Int)) := by omega
    have c1n : ((z : Int) ≤ 200) := by omega
    simp [c1', c1n]
    refine wCall_pure e2 ?_
    rintro v rfl
    by_cases c2 : 12 < d
    · have c2' : (12 < (d : Int)) := by omega
      have c2n : ¬ ((d : Int) ≤ 12) := by omega
      have := fin true (by simp [c2])
      simpa [c1', c1n, c2', c2n] using this
    · have c2' : ¬ (12 < (d : Int)) := by omega
      have c2n : ((d : Int) ≤ 12) := by omega
      have := fin false (by simp [c1, c2])
      simpa [c1', c1n, c2', c2n] using this
theorem rvalidate_spec {t : Ty} (h : size t < 2 ^ 60) (ho : okT t) {x : AV} (hx : TRep t x) : PureC (env R) 14 [x] fun r => r = I64 (verdict t) := by
  by_cases hs : size t < 2 ^ 38
  · exact rvalidate_small hs ho hx
  have e1 := rsize_spec (R := R) t (by omega) x hx
  have hv : verdict t = 4 := by
    unfold verdict
    rw [aLs0033 (show 200 < size t by omega)]
    rfl
  rw [hv]
  generalize hz : size t = z at *
  obtain ⟨k, n, i, ts⟩ := t
  obtain ⟨a, rfl, ha⟩ := hx
  refine e14 (u0 := .agg [I64 k, SS n, I64 i, a]) (by simp [ha.close]) (p14_0 ?_)
  simp [ha.ok]
  refine wCall_pure e1 ?_
  rintro v rfl
  have c1' : (200 < (z : Int)) := by omega
  have c1n : ¬ ((z : Int) ≤ 200) := by omega
  simp [QP, QI, c1', c1n]
end
section
variable {R : Nat → Option (List PV)}
theorem order_spec (b : Bool) : PureC (env R) 71 [BB b] fun r => ∃ c : Int, r = I64 c ∧ c ≠ 0 := by
  refine e71 (u0 := BB b) (by simp) (p71_0 ?_)
  refine ⟨fun _ => ⟨_, clP, -1, rfl, by omega⟩, fun _ => p71_1 ⟨_, clP, 1, rfl, by omega⟩⟩
theorem cmp_loop {k i k' i' : Int} {n n' : List UInt8} {ts ts' : List Ty} {a a' : AV} (ha : RowsA a (rowsT ts)) (ha' : RowsA a' (rowsT ts')) (hl : sizeL ts < 2 ^ 60) (hlen : ts.length = ts'.length)
    (ih : ∀ t ∈ ts, ∀ (t' : Ty) (x x' : AV), TRep t x → TRep t' x' → PureC (env R) 43 [x, x'] fun r => ∃ c : Int, r = I64 c ∧ (c = 0 ↔ t = t')) {Post : AV → Prop} :
    ∀ (j q : Nat), q + j = ts.length → (∀ c : Int, (c = 0 ↔ ts.drop q = ts'.drop q) → Post (I64 c)) → P43_2 R 0 0 0 (.ptr 0 0) (.ptr 1 0) (I64 q) ⟨[[I64 k, SS n, I64 i, a], [I64 k', SS n', I64 i', a']], []⟩ (QP Post) := by
  have h60 := sizeL_len ts
  intro j
  induction j with
  | zero =>
    intro q hi hP
    refine p43_2 ?_
    have h1 : ¬ ((q : Int) < ts.length) := by omega
    simp [ha.lenA, rowsT_len, h1]
    refine p43_4 ?_
    have h2 : ts.drop q = [] := aLs0024 (by omega)
    have h3 : ts'.drop q = [] := aLs0024 (by omega)
    exact ⟨_, clP, hP 0 (by simp [h2, h3])⟩
  | succ j ihj =>
    intro q hi hP
    refine p43_2 ?_
    have h1 : ((q : Int) < ts.length) := by omega
    obtain ⟨t, ht⟩ : ∃ t, ts[q]? = some t := ⟨_, aLs0008 (by omega)⟩
    obtain ⟨t', ht'⟩ : ∃ t, ts'[q]? = some t := ⟨_, aLs0008 (by omega)⟩
    rw [drop_cons ht, drop_cons ht'] at hP
    have e3 := ih t (aLs0013 ht) t' _ _ (TRep.of_row t) (TRep.of_row t')
    simp [ha.lenA, rowsT_len, h1]
    refine p43_3 ?_
    simp
    refine wIdx_rows ha (row := rowT t) (by omega) (by simpa using rowsT_get ht) (rowT_len t) (by omega) ?_
    simp [rowT_len]
    refine wIdx_rows ha' (row := rowT t') (by omega) (by simpa using rowsT_get ht') (rowT_len t') (by omega) ?_
    have tk : ∀ t : Ty, List.take 4 ((rowT t).map AV.pv) = (rowT t).map .pv := fun t => aLs0019 (by simp [rowT_len])
    simp [rowT_len, ← aLs0096, tk]
    refine wCall_pure e3 ?_
    rintro v ⟨c, rfl, hc⟩
    by_cases h0 : c = 0
    · have e : t = t' := hc.1 h0
      subst h0
      simp
      refine p43_5 ?_
      simp only [wInt, xI]
      refine ⟨⟨aLs0000, aLs0000⟩, wAri_fit (by omega) (by omega) ?_⟩
      have := ihj (q + 1) (by omega) (fun c h => hP c (by rw [h]; simp [e]))
      simpa using this
    · have e : t ≠ t' := fun e => h0 (hc.2 e)
      have := hP c (by simp [e, h0])
      simp [QP, QI, h0]
      exact this
mutual
theorem cmp_spec : ∀ (t : Ty), size t < 2 ^ 38 → ∀ (t' : Ty) (x x' : AV), TRep t x → TRep t' x' → PureC (env R) 43 [x, x'] fun r => ∃ c : Int, r = I64 c ∧ (c = 0 ↔ t = t')
  | .mk k n i ts, h, .mk k' n' i' ts', x, x', hx, hx' => by
    obtain ⟨a, rfl, ha⟩ := hx
    obtain ⟨a', rfl, ha'⟩ := hx'
    simp only [size] at h
    have ih := cmps_spec ts (by omega)
    suffices H : ∀ Post : AV → Prop, (∀ c : Int, (c = 0 ↔ Ty.mk k n i ts = Ty.mk k' n' i' ts') → Post (I64 c)) → P43_0 R 0 0 0 (.agg [I64 k, SS n, I64 i, a]) (.agg [I64 k', SS n', I64 i', a']) ⟨[], []⟩ (QP Post) from
      e43 (u0 := .agg [I64 k, SS n, I64 i, a]) (u1 := .agg [I64 k', SS n', I64 i', a']) (by simp [ha.close, ha'.close]) (H _ fun c hc => ⟨c, rfl, hc⟩)
    intro Post hP
    refine p43_0 ?_
    simp only [Ty.mk.injEq] at hP
    by_cases h1 : k = k'
    · subst h1
      by_cases h2 : n = n'
      · subst h2
        by_cases h3 : i = i'
        · subst h3
          by_cases h4 : ts.length = ts'.length
          · have h4' : ((ts.length : Int) = ts'.length) := by omega
            simp [ha.ok, ha'.ok, ha.lenA, ha'.lenA, rowsT_len, h4', bne]
            refine p43_1 ?_
            have := cmp_loop (k := k) (i := i) (k' := k) (i' := i) (n := n) (n' := n) ha ha' (by omega) h4 ih ts.length 0 (by omega) (Post := Post) (by
              intro c hc
              exact hP c (by simpa using hc))
            simpa using this
          · have h4' : ¬ ((ts.length : Int) = ts'.length) := by omega
            simp [ha.ok, ha'.ok, ha.lenA, ha'.lenA, rowsT_len, h4', bne]
            refine wCall_pure (order_spec _) ?_
            rintro v ⟨c, rfl, hc⟩
            exact ⟨_, clP, hP c (by simp only [hc, false_iff]; rintro ⟨_, _, _, e⟩; rw [e] at h4; exact h4 rfl)⟩
        · have h3' : (i == i') = false := by simpa using h3
          simp [ha.ok, ha'.ok, h3, bne]
          refine wCall_pure (order_spec _) ?_
          rintro v ⟨c, rfl, hc⟩
          exact ⟨_, clP, hP c (by simp [hc, h3])⟩
      · simp [ha.ok, ha'.ok, h2, bne]
        refine wCall_pure (order_spec _) ?_
        rintro v ⟨c, rfl, hc⟩
        exact ⟨_, clP, hP c (by simp [hc, h2])⟩
    · simp [ha.ok, ha'.ok, h1, bne]
      refine wCall_pure (order_spec _) ?_
      rintro v ⟨c, rfl, hc⟩
      exact ⟨_, clP, hP c (by simp [hc, h1])⟩
theorem cmps_spec : ∀ (l : List Ty), sizeL l < 2 ^ 38 → ∀ t ∈ l, ∀ (t' : Ty) (x x' : AV), TRep t x → TRep t' x' → PureC (env R) 43 [x, x'] fun r => ∃ c : Int, r = I64 c ∧ (c = 0 ↔ t = t')
  | [], _, _, h => by cases h
  | e :: l, ho, a, h => by
    simp only [sizeL] at ho
    rcases aLs0006.1 h with h' | h'
    · rw [h']
      exact cmp_spec e (by omega)
    · exact cmps_spec l (by omega) a h'
end
theorem tyEqual_spec {t t' : Ty} {x x' : AV} (h : size t < 2 ^ 38) (hx : TRep t x) (hx' : TRep t' x') : PureC (env R) 15 [x, x'] fun r => ∃ b : Bool, r = BB b ∧ (b = true ↔ t = t') := by
  have e := cmp_spec (R := R) t h t' x x' hx hx'
  obtain ⟨k, n, i, ts⟩ := t
  obtain ⟨k', n', i', ts'⟩ := t'
  obtain ⟨a, rfl, ha⟩ := hx
  obtain ⟨a', rfl, ha'⟩ := hx'
  refine e15 (u0 := .agg [I64 k, SS n, I64 i, a]) (u1 := .agg [I64 k', SS n', I64 i', a']) (by simp [ha.close, ha'.close]) (p15_0 ?_)
  simp [ha.ok, ha'.ok]
  refine wCall_pure e ?_
  rintro v ⟨c, rfl, hc⟩
  refine ⟨⟨rfl, rfl⟩, _, clP, ?_⟩
  by_cases h0 : c = 0
  · subst h0
    have e := hc.1 rfl
    simp only [Ty.mk.injEq] at e
    exact .inr ⟨rfl, e⟩
  · have b : (c == 0) = false := by simpa using h0
    refine .inl ⟨by rw [b], fun e1 e2 e3 e4 => h0 (hc.2 ?_)⟩
    rw [e1, e2, e3, e4]
abbrev FA (k o : Int) : AV := .agg [I64 k, I64 o]
end
inductive Nd where
  | mk (kind : Int) (text : List UInt8) (children : List Nd) (offset : Int)
mutual
def rowN : Nd → List PV
  | .mk k s cs o => [.sc (.int .i64 k), .sc (.string ⟨s.toArray⟩), .list (rowsN cs), .sc (.int .i64 o)]
def rowsN : List Nd → List (List PV)
  | [] => []
  | v :: vs => rowN v :: rowsN vs
end
theorem rowsN_eq : ∀ l, rowsN l = l.map rowN
  | [] => by simp [rowsN]
  | v :: vs => by simp [rowsN, rowsN_eq vs]
theorem rowN_len (v : Nd) : (rowN v).length = 4 := by cases v; simp [rowN]
theorem rowsN_len (l : List Nd) : (rowsN l).length = l.length := by simp [rowsN_eq]
theorem rowsN_get {l : List Nd} {i : Nat} {a : Nd} (h : l[i]? = some a) : (rowsN l)[i]? = some (rowN a) := by simp [rowsN_eq, h]
def NRep (v : Nd) (x : AV) : Prop := match v with
  | .mk k s cs o => ∃ a, x = .agg [I64 k, SS s, a, I64 o] ∧ RowsA a (rowsN cs)
theorem NRep.of_row (v : Nd) : NRep v (.agg ((rowN v).map .pv)) := by
  cases v with
  | mk k s cs o => exact ⟨_, by simp [rowN], .list _⟩
def Nd.kind : Nd → Int | .mk k _ _ _ => k
def Nd.text : Nd → List UInt8 | .mk _ s _ _ => s
def Nd.off : Nd → Int | .mk _ _ _ o => o
def isNm (n : Nd) : Bool := n.kind == 1 && isId n.text && !resv.contains n.text
def lastOf (vars : List (List UInt8)) (text : List UInt8) : Nat → Option Nat
  | 0 => none
  | j + 1 => bif vars[j]? == some text then some j else lastOf vars text j
def wordC (text : List UInt8) (off : Int) (vars : List (List UInt8)) : Int ⊕ Ty :=
  bif text == [65, 110, 121] then .inr (.mk 0 [] 0 [])
  else bif text == [78, 101, 118, 101, 114] then .inr (.mk 1 [] 0 [])
  else match lastOf vars text vars.length with
    | some j => .inr (.mk 5 [] ((vars.length : Int) - 1 - j) [])
    | none => bif isId text && !resv.contains text then .inr (.mk 2 text 0 []) else .inl off
def CRep (r : Int ⊕ Ty) (x : AV) : Prop := match r with
  | .inl o => ∃ y, x = .tuple [y, FA 2 o] ∧ TRep (.mk 0 [] 0 []) y
  | .inr t => ∃ y, x = .tuple [y, FA 0 0] ∧ TRep t y
section
variable {R : Nat → Option (List PV)}
theorem env_G7 : (env R).G 7 = some (strRow resv) := rfl
theorem invalid_spec {k o : Int} {s : List UInt8} {a : AV} {rows : List (List PV)} (ha : RowsA a rows) : PureC (env R) 74 [.agg [I64 k, SS s, a, I64 o]] fun r => r = FA 2 o := by
  refine e74 (u0 := .agg [I64 k, SS s, a, I64 o]) (by simp [ha.close]) (p74_0 ?_)
  simp [QP, QI, ha.ok]
theorem isName_spec {k o : Int} {s : List UInt8} {a : AV} {rows : List (List PV)} (ha : RowsA a rows) (hs : s.length < 2 ^ 60) : PureC (env R) 98 [.agg [I64 k, SS s, a, I64 o]] fun r => r = BB (k == 1 && isId s && !resv.contains s) := by
  refine e98 (u0 := .agg [I64 k, SS s, a, I64 o]) (by simp [ha.close]) (p98_0 ?_)
  cases h1 : (k == 1) with
  | false => simp [-beq_iff_eq, QP, QI, ha.ok, h1]
  | true =>
    have e : k = 1 := by simpa using h1
    subst e
    simp [ha.ok]
    refine wCall_pure (isIdent_spec hs) ?_
    rintro v rfl
    cases h2 : isId s with
    | false => simp [QP, QI]
    | true =>
      simp [env_G7, resv_rows]
      refine wCall_pure (containsS_spec (.list _) (by simp [resv])) ?_
      rintro v rfl
      simp [QP, QI]
def rfa : Code → Code
  | .rangeFunc _ _ a _ => a
  | c => c
def rfb : Code → Code
  | .rangeFunc _ _ _ b => b
  | c => c
theorem word_round {n0 ro rt : Nat} {t2 t3 t4 t5 t19 v j : AV} {s : Sto} {M : Out → Sto → Prop} (h : Out.norm = Out.norm ∧
 wFad s t2 1 fun a23 =>
 wLd (env R) s none a23 fun a24 =>
 wStr .eql v a24 fun a25 =>
 wCond a25 (
 wLd (env R) s none t3 fun a26 =>
 wLen s a26 fun a27 =>
 wInt .i64 .sub a27 (I64 1) fun a28 =>
 wInt .i64 .sub a28 j fun a30 =>
 wBuild [(I64 0), (SS []), (I64 0), (.capped [])] [(0, 1, (I64 5)), (2, 1, a30)] fun a31 =>
 wBuild [(I64 0), (I64 0)] [] fun a32 =>
 wSt (LFE (env R) 72 n0 ro rt) s 4 t4 a31 fun s1 =>
 wSt (LFE (env R) 72 n0 ro rt) s1 2 t5 a32 fun s2 =>
 M .ret s2) (M .norm s)) : wpo (env R) (LFE (env R) 72 n0 ro rt) 43 (rfa (sub b72 [1, 1, 0, 1, 0])) ((21, v) :: (20, j) :: [(2, t2), (3, t3), (4, t4), (5, t5), (19, t19)]) s fun o env1 s =>
    o = .norm ∧ wpo (env R) (LFE (env R) 72 n0 ro rt) 43 (rfb (sub b72 [1, 1, 0, 1, 0])) env1 s fun o _ s' => M o s' := mpK h (by kernel_rfl)
theorem word_res_eq {t2 t3 t4 t5 t19 : AV} {s : Sto} {QR : AV → Sto → Prop} : (wLd (env R) s (some 4) t4 fun r => wLd (env R) s (some 2) t5 fun r2 => QR (.tuple [r, r2]) s) =
    (wRes (env R) (lkE [(2, t2), (3, t3), (4, t4), (5, t5), (19, t19)]) s [.cell 4 25, .cell 5 35] fun vs => QR (packA vs) s) := by kernel_rfl
end
section
variable {R : Nat → Option (List PV)}
theorem elem9 {b : ByteArray} : elemA (env R).P 9 [.sc (.string b)] = some (.pv (.sc (.string b))) := by kernel_rfl
theorem size9 : (sizeA (env R).P 9).isSome = true := by kernel_rfl
theorem noA : noRF (rfa (sub b72 [1, 1, 0, 1, 0])) = true := by kernel_rfl
theorem noB : noRF (rfb (sub b72 [1, 1, 0, 1, 0])) = true := by kernel_rfl
theorem code72 : sub b72 [1, 1, 0, 1, 0] = .rangeFunc (.tmp 19) #[20, 21] (rfa (sub b72 [1, 1, 0, 1, 0])) (rfb (sub b72 [1, 1, 0, 1, 0])) := by kernel_rfl
set_option maxRecDepth 20000 in
theorem word_spec {off : Int} {text : List UInt8} {c v : AV} {rows : List (List PV)} {vars : List (List UInt8)} (hc : RowsA c rows) (hv : RowsA v (strRows vars)) (hvl : vars.length < 2 ^ 50) (ht : text.length < 2 ^ 60) :
    PureC (env R) 72 [.agg [I64 1, SS text, c, I64 off], v] fun r => CRep (wordC text off vars) r := by
  suffices H : ∀ Post : AV → Prop, (∀ r, CRep (wordC text off vars) r → Post r) → P72_0 R 0 0 0 (.agg [I64 1, SS text, c, I64 off]) v ⟨[], []⟩ (QP Post) from
    e72 (u0 := .agg [I64 1, SS text, c, I64 off]) (u1 := v) (by simp [hc.close, hv.close]) (H _ fun r h => h)
  intro Post hP
  refine p72_0 ?_
  by_cases h1 : text = [65, 110, 121]
  · subst h1
    simp [QP, QI, hc.ok, hv.ok, hv.cells]
    exact hP _ ⟨_, rfl, .capped [], rfl, .capped _⟩
  by_cases h2 : text = [78, 101, 118, 101, 114]
  · subst h2
    simp [QP, QI, hc.ok, hv.ok, hv.cells]
    exact hP _ ⟨_, rfl, .capped [], rfl, .capped _⟩
  have b1 : (text == [65, 110, 121]) = false := by simpa using h1
  have b2 : (text == [78, 101, 118, 101, 114]) = false := by simpa using h2
  have hwc : wordC text off vars = match lastOf vars text vars.length with
      | some j => .inr (.mk 5 [] ((vars.length : Int) - 1 - j) [])
      | none => bif isId text && !resv.contains text then .inr (.mk 2 text 0 []) else .inl off := by
    simp only [wordC, b1, b2, aLs0009] <;> cases lastOf vars text vars.length <;> rfl
  rw [hwc] at hP
  simp [hc.ok, hv.ok, hv.cells, h1, h2]
  refine p72_1 ?_
  simp
  refine wCall_do (m97 (Post := fun r s' => r = .func (.func 116) [] [.ptr 4 0] ∧ s' = ⟨[[I64 1, SS text, c, I64 off], [v], [I64 0, SS [], I64 0, .capped []], [I64 0, I64 0], [v]], []⟩) (p97_0 ?_)) ?_
  · simp [hv.ok, hv.cells]
  rintro r s' ⟨rfl, rfl⟩
  unfold P72_2
  rw [code72]
  have hlen : (strRows vars).length = vars.length := strRows_len vars
  refine wp_range (k := 116) (id := 4) (p := 20) (q := 21) (el := 9) (c := v) (rest := []) (rows := strRows vars) rfl rfl rfl rfl hv.rowsOf ?_
    (fun j s => j ≤ vars.length ∧ s = ⟨[[I64 1, SS text, c, I64 off], [v], [I64 0, SS [], I64 0, .capped []], [I64 0, I64 0], []], []⟩ ∧ lastOf vars text vars.length = lastOf vars text j) ?_ ?_ ?_
  · have h18 : Nat.ble (strRows vars).length 1000000000000000000 = true := aLs0099 (by omega)
    simp only [noA, noB, size9, h18, aLs0051]
    rfl
  · exact ⟨by omega, by simp, by rw [hlen]⟩
  · rintro j s row hrow ⟨hj, rfl, hl⟩
    obtain ⟨w, hw⟩ : ∃ w, vars[j]? = some w := ⟨_, aLs0008 (by omega)⟩
    have e := strRows_get hw
    rw [hrow] at e
    simp only [aLs0001] at e
    subst e
    refine ⟨_, elem9, word_round ?_⟩
    refine ⟨rfl, ?_⟩
    simp [hv.lenA, hlen]
    refine ⟨?_, ?_⟩
    · intro e
      subst e
      refine wAri_fit (by omega) (by omega) ?_
      simp
      refine wAri_fit (by omega) (by omega) ?_
      have hlast : lastOf vars w vars.length = some j := by rw [hl]; simp [lastOf, hw]
      rw [hlast] at hP
      simp
      rw [← word_res_eq]
      simp [QP, QI]
      exact hP _ ⟨_, rfl, .capped [], rfl, .capped _⟩
    · intro e
      refine ⟨by omega, ?_⟩
      rw [hl]
      have : (vars[j]? == some text) = false := by
        rw [hw]
        simpa using e
      simp [lastOf, this]
  · rintro s' ⟨_, rfl, hl⟩
    have hlast : lastOf vars text vars.length = none := hl
    rw [hlast] at hP
    refine p72_2 (p72_3 ?_)
    simp
    refine wCall_pure (isName_spec hc ht) ?_
    rintro r rfl
    cases hn : (isId text && !resv.contains text) with
    | true =>
      simp only [hn, aLs0004] at hP
      have : (((1 : Int) == 1) && isId text && !resv.contains text) = true := by simpa using hn
      rw [this]
      simp
      refine p72_4 ?_
      simp [QP, QI]
      exact hP _ ⟨_, rfl, .capped [], rfl, .capped _⟩
    | false =>
      simp only [hn, aLs0009] at hP
      have : (((1 : Int) == 1) && isId text && !resv.contains text) = false := by
        have : (isId text && !resv.contains text) = false := hn
        rw [show ((1 : Int) == 1) = true from rfl, aLs0097]
        exact this
      rw [this]
      simp
      refine wCall_pure (invalid_spec hc) ?_
      rintro r rfl
      simp [QP, QI]
      exact hP _ ⟨_, rfl, .capped [], rfl, .capped _⟩
end
mutual
def conv : Nd → List (List UInt8) → Int ⊕ Ty
  | .mk k s cs o, vars =>
    bif k == 1 then wordC s o vars
    else bif k == 3 then
      match cs with
      | [] => .inl o
      | .mk hk hs hc ho :: args =>
        bif !(hk == 1) then .inl o
        else bif hs == [101, 120, 105, 115, 116, 115] then
          match args with
          | [.mk nk ns nc no, b, body] =>
            bif isNm (.mk nk ns nc no) then
              match conv b [] with
              | .inl e => .inl e
              | .inr tb => match conv body (vars ++ [ns]) with
                | .inl e => .inl e
                | .inr tt => .inr (.mk 6 [] 0 [tb, tt])
            else .inl no
          | _ => .inl o
        else bif hs == [116, 117, 112, 108, 101] then
          match convL args vars with
          | .inl e => .inl e
          | .inr l => .inr (.mk 3 [] 0 l)
        else bif hs == [117, 110, 105, 111, 110] then
          bif decide (2 ≤ args.length) then
            match convL args vars with
            | .inl e => .inl e
            | .inr l => .inr (.mk 4 [] 0 l)
          else .inl o
        else bif args.length == 0 then .inl o
        else bif isNm (.mk hk hs hc ho) then
          match convL args vars with
          | .inl e => .inl e
          | .inr l => .inr (.mk 2 hs 0 l)
        else .inl ho
    else .inl o
def convL : List Nd → List (List UInt8) → Int ⊕ List Ty
  | [], _ => .inr []
  | n :: l, vars => match conv n vars with
    | .inl e => .inl e
    | .inr t => match convL l vars with
      | .inl e => .inl e
      | .inr ts => .inr (t :: ts)
end
section
variable {R : Nat → Option (List PV)}
theorem strRows_row {l : List (List UInt8)} : ∀ r ∈ strRows l, r.length = 1 := by
  intro r hr
  obtain ⟨n, _, rfl⟩ := aLs0052.1 hr
  rfl
theorem strRows_ok {l : List (List UInt8)} : ((strRows l).flatten.map AV.pv).all okCell = true := by
  induction l with
  | nil => rfl
  | cons n l _ => simp [strRows, okCell]
theorem cloneS_spec {vars : List (List UInt8)} {v : AV} (hv : RowsA v (strRows vars)) (hl : vars.length < 2 ^ 40) {L : Lim} {s : Sto} (hrt : L.rt ≤ s.ts.length) :
    ∃ r s', (∃ x', s' = ⟨s.bs, s.ts ++ x'⟩ ∧ Apd s.ts.length (s.ts ++ x') 9 r (strRows vars)) ∧ CallE (env R) L 61 [v] s r s' := by
  cases vars with
  | nil =>
    refine ⟨.capped [], s, ⟨[], by simp, .inl rfl⟩, call_empty Tryz.func61 (by kernel_rfl) (by kernel_rfl) ?_⟩
    rcases hv with rfl | rfl <;> rfl
  | cons w l =>
    have he : emptyArg [v] = false := by rcases hv with rfl | rfl <;> rfl
    have key : P61_0 R L.n0 L.ro L.rt v s (fun r s' => ∃ x', s' = ⟨s.bs, s.ts ++ x'⟩ ∧ Apd s.ts.length (s.ts ++ x') 9 r (strRows (w :: l))) := by
      refine p61_0 ?_
      have hnn : ∀ K : AV → Prop, K (BB false) → wNeN s (some 1) (nilV v) (some 1) .eql v (.capped []) K := by
        intro K h
        refine ⟨?_, h⟩
        rcases hv with rfl | rfl <;> rfl
      refine hnn _ ⟨by simp, fun _ => p61_1 ?_⟩
      simp [wBsl, repl, fillS, wO, toPVs, rowsBy]
      have hL : (strRows (w :: l)).length = l.length + 1 := by simp [strRows]
      simp only [aLs0010] at hl
      have := wApp_rows (L := LFE (env R) 61 L.n0 L.ro L.rt) (bs := s.bs) (ts := s.ts) (x := []) (e := 9) (k := 1) (bytes := 16) (a := .capped []) (y := v) (rows := []) (m := strRows (w :: l))
        (K := fun r s' => ∃ x', s' = ⟨s.bs, s.ts ++ x'⟩ ∧ Apd s.ts.length (s.ts ++ x') 9 r (strRows (w :: l))) (.inl rfl) hrt (by simp) strRows_row (by omega) (srcCells_rows (.inl hv) strRows_row) strRows_ok (by rw [hL]; simp; omega) (by rw [hL]; simp; omega)
        (fun a x h => ⟨x, rfl, by simpa using h⟩)
      simpa using this
    exact call_esc2 (fn := Tryz.f61) (body := b61) Tryz.func61 (by kernel_rfl) (by kernel_rfl) (by kernel_rfl) (by kernel_rfl) he (aLs0022 (by kernel_rfl)) (mpK key (by kernel_rfl))
end
mutual
def nsize : Nd → Nat
  | .mk _ _ cs _ => nsizeL cs + 1
def nsizeL : List Nd → Nat
  | [] => 0
  | a :: l => nsize a + nsizeL l
end
mutual
def okNd : Nd → Prop
  | .mk _ s cs _ => s.length < 2 ^ 60 ∧ okNds cs
def okNds : List Nd → Prop
  | [] => True
  | t :: l => okNd t ∧ okNds l
end
mutual
def fewN : Nd → Prop
  | .mk _ _ cs _ => cs.length < 2 ^ 30 ∧ fewNs cs
def fewNs : List Nd → Prop
  | [] => True
  | t :: l => fewN t ∧ fewNs l
end
mutual
def grow : Nd → Nat
  | .mk _ _ cs _ => growL cs
def growL : List Nd → Nat
  | [] => 0
  | [t] => grow t + 1
  | t :: u :: l => max (grow t) (growL (u :: l))
end
theorem grow_mem : ∀ {l : List Nd} {a : Nd}, a ∈ l → grow a ≤ growL l
  | [], _, h => by cases h
  | [t], a, h => by
    simp only [aLs0006, aLs0048, aLs0049] at h
    subst h
    simp only [growL]
    omega
  | t :: u :: l, a, h => by
    simp only [growL]
    rcases aLs0006.1 h with rfl | h
    · omega
    · have := grow_mem h; omega
theorem grow_four {a b c d : Nd} : grow d + 1 ≤ growL [a, b, c, d] := by
  simp only [growL]
  omega
theorem nsize_pos (t : Nd) : 0 < nsize t := by cases t; simp [nsize]
def listR (kd : Int) (nm : List UInt8) (done : List Ty) : Int ⊕ List Ty → Int ⊕ Ty
  | .inl e => .inl e
  | .inr l => .inr (.mk kd nm 0 (done ++ l))
section
variable {R : Nat → Option (List PV)}
theorem list_loop {kd : Int} {nm : List UInt8} {args : List Nd} {vars : List (List UInt8)} {v : AV} {B0 B3 : List AV} (hv : RowsA v (strRows vars)) (hl : args.length < 2 ^ 38)
    (ih : ∀ c ∈ args, PureC (env R) 46 [.agg ((rowN c).map .pv), v] fun r => CRep (conv c vars) r) {Post : AV → Prop} :
    ∀ (j q : Nat) (done : List Ty) (acc : AV) (m : List (List AV)) (x : List (Nat × TypeId)), q + j = args.length → done.length = q → Apd 0 x 25 acc (rowsT done) → (∀ r, CRep (listR kd nm done (convL (args.drop q) vars)) r → Post r) →
      P73_3 R 0 0 0 v (.ptr 1 0) (.ptr 2 0) (.ptr 4 0) (.pv (.list (rowsN args))) (I64 args.length) (I64 q)
        ⟨B0 :: [I64 0, SS [], I64 0, .capped []] :: [I64 0, I64 0] :: B3 :: [I64 kd, SS nm, I64 0, acc] :: m, x⟩ (QP Post) := by
  have h60 := hl
  intro j
  induction j with
  | zero =>
    intro q done acc m x hi hd hA hP
    refine p73_3 ?_
    have h1 : ¬ ((q : Int) < args.length) := by omega
    simp [h1]
    refine p73_5 ?_
    have h2 : args.drop q = [] := aLs0024 (by omega)
    rw [h2] at hP
    have hok := hA.rowsO.ok
    obtain ⟨acc', hc, hr⟩ := hA.rowsO.closed (B0 :: [I64 kd, SS nm, I64 0, acc] :: [I64 0, I64 0] :: B3 :: [I64 kd, SS nm, I64 0, acc] :: m) 0
    simp [QP, QI, hok, hc]
    exact hP _ ⟨_, rfl, acc', rfl, by simpa using hr⟩
  | succ j ihj =>
    intro q done acc m x hi hd hA hP
    refine p73_3 ?_
    have h1 : ((q : Int) < args.length) := by omega
    obtain ⟨c, hc⟩ : ∃ c, args[q]? = some c := ⟨_, aLs0008 (by omega)⟩
    rw [drop_cons hc] at hP
    simp only [convL] at hP
    have e3 := ih c (aLs0013 hc)
    simp [h1]
    refine p73_4 ?_
    refine wIdx_rows (.list _) (row := rowN c) (by omega) (by simpa using rowsN_get hc) (rowN_len c) (by omega) ?_
    obtain ⟨k', s', cs', o'⟩ := c
    simp only [rowN, aLs0018, aLs0026] at e3
    simp [rowN, get_app, get_app0, set_app, set_app0]
    refine wCall_pure e3 ?_
    intro r hr
    cases hcv : conv (.mk k' s' cs' o') vars with
    | inl e =>
      rw [hcv] at hr hP
      obtain ⟨y, rfl, a0, rfl, ha0⟩ := hr
      simp [QP, QI, ha0.ok, get_app, get_app0, set_app, set_app0, eqA, eqAL, eqP, eqV_int]
      exact hP _ ⟨_, rfl, .capped [], rfl, .capped _⟩
    | inr t =>
      rw [hcv] at hr hP
      obtain ⟨y, rfl, hy⟩ := hr
      obtain ⟨kt, nt, it, tt⟩ := t
      obtain ⟨a1, rfl, ha1⟩ := hy
      simp [ha1.ok, get_app, get_app0, set_app, set_app0]
      refine p73_6 ?_
      simp [get_app, get_app0, set_app, set_app0]
      have htp := ha1.toPV
      have hok1 := ha1.ok
      have hnb1 := ha1.noBlk
      simp [wBsl, repl, htp, hok1, rowsBy]
      have hlen : (rowsT done).length = q := by rw [rowsT_len, hd]
      refine wApp_row (ts := []) (x := x) (row := rowT (.mk kt nt it tt)) hA (by simp [LFE]) (fun r hr => ?_) (rowT_len _) (by omega) (by simp [rowT, okCell]) (by rw [hlen]; omega) (by rw [hlen]; omega) ?_
      · rw [rowsT_eq] at hr
        obtain ⟨z, _, rfl⟩ := aLs0052.1 hr
        exact rowT_len z
      intro acc' x' hA'
      have hok2 := hA'.rowsO.ok
      have hnb2 := hA'.rowsO.noBlk
      have hce2 := hA'.rowsO.cells
      simp [hok2, hnb2, hce2, get_app, get_app0, set_app, set_app0]
      refine p73_7 ?_
      simp only [wInt, xI]
      refine ⟨⟨aLs0000, aLs0000⟩, wAri_fit (by omega) (by omega) ?_⟩
      have e4 : rowsT done ++ [rowT (.mk kt nt it tt)] = rowsT (done ++ [.mk kt nt it tt]) := by simp [rowsT_eq]
      rw [e4] at hA'
      have := ihj (q + 1) (done ++ [.mk kt nt it tt]) acc' (m ++ [[.pv (.sc (.int .i64 k')), .pv (.sc (.string ⟨s'.toArray⟩)), .pv (.list (rowsN cs')), .pv (.sc (.int .i64 o'))], [I64 kt, SS nt, I64 it, a1], [I64 0, I64 0]]) x' (by omega) (by simp [hd]) (by simpa using hA') (by
        intro r hr
        refine hP r ?_
        cases hcl : convL (args.drop (q + 1)) vars with
        | inl e =>
          rw [hcl] at hr
          exact hr
        | inr l =>
          rw [hcl] at hr
          simpa [listR] using hr)
      simpa using this
end
end Go.Proofs.YtmipbilokjkjiaaGreatDoor
