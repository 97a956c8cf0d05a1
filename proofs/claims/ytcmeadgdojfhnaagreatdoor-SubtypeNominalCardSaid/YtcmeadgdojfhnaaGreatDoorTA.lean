/-
  Terms ts plain data; their size and depth.
-/
import Derived.Test.YtcmeadgdojfhnaaGreatDoorW2
import Derived.Test.YtcmeadgdojfhnaaGreatDoorW3
import Derived.Test.YtcmeadgdojfhnaaGreatDoorWpH
set_option linter.unusedSimpArgs false
set_option linter.unusedVariables false
namespace Go.Proofs.YtcmeadgdojfhnaaGreatDoor
open Go.Tel
attribute [local simp] wNew wBox wBoxZ markT wCond wBuild fillS wO setCells wSt wLd wPart LFE wFad alive wInt wStr wGK wGd wPick wExt wLen wSlen wNot wNil okI ceI okB ceB okS ceS okL ceL okC ceC okO ceO okP ceP okG ceG okE ceE okR ceR okF ceF okX ceX okM ceM okN ceN okNf ceNf okNi ceNi ceA roL roC roO leL leC leO tpP tpC tpO clP clC clO clF clA clT clN clL nbP nbC nbO nbN nbL toPVs
inductive Ty where
  | mk (kind : Int) (name : List UInt8) (index : Int) (args : List Ty)
mutual
def rowT : Ty → List PV
  | .mk k n i ts => [.sc (.int .i64 k), .sc (.string ⟨n.toArray⟩), .sc (.int .i64 i), .list (rowsT ts)]
def rowsT : List Ty → List (List PV)
  | [] => []
  | v :: vs => rowT v :: rowsT vs
end
theorem rowsT_eq : ∀ l, rowsT l = l.map rowT
  | [] => by rfl
  | v :: vs => by simp [rowsT, rowsT_eq vs]
theorem rowT_len (v : Ty) : (rowT v).length = 4 := by cases v; rfl
theorem rowsT_len (l : List Ty) : (rowsT l).length = l.length := by simp [rowsT_eq]
theorem rowsT_get {l : List Ty} {i : Nat} {a : Ty} (h : l[i]? = some a) : (rowsT l)[i]? = some (rowT a) := by grind[rowsT_eq]
def TRep (v : Ty) (x : AV) : Prop := match v with
  | .mk k n i ts => ∃ a, x = .agg [I64 k, SS n, I64 i, a] ∧ RowsA a (rowsT ts)
theorem TRep.of_row (v : Ty) : TRep v (.agg ((rowT v).map .pv)) := by
  cases v with
  | mk k n s es => exact ⟨_, by rfl, .list _⟩
theorem drop_cons {α : Type} {l : List α} {i : Nat} {a : α} (h : l[i]? = some a) : l.drop i = a :: l.drop (i + 1) := by grind[List.drop_eq_getElem_cons]
mutual
def size : Ty → Nat
  | .mk _ _ _ ts => sizeL ts + 1
def sizeL : List Ty → Nat
  | [] => 0
  | a :: l => size a + sizeL l
end
mutual
def depth : Ty → Nat
  | .mk _ _ _ ts => depthL ts + 1
def depthL : List Ty → Nat
  | [] => 0
  | a :: l => max (depth a) (depthL l)
end
theorem size_pos (t : Ty) : 0 < size t := by cases t; simp [size]
theorem sizeL_len : ∀ l : List Ty, l.length ≤ sizeL l
  | [] => by simp
  | a :: l => by
    have := size_pos a
    have := sizeL_len l
    grind[sizeL]
mutual
theorem depth_le : ∀ t : Ty, depth t ≤ size t
  | .mk _ _ _ ts => by
    have := depthL_le ts
    grind[depth,size]
theorem depthL_le : ∀ l : List Ty, depthL l ≤ sizeL l
  | [] => by simp [depthL]
  | a :: l => by
    have := depth_le a
    have := depthL_le l
    grind[depthL,sizeL]
end
theorem size_mem : ∀ {l : List Ty} {a : Ty}, a ∈ l → size a ≤ sizeL l
  | [], _, h => by cases h
  | b :: l, a, h => by
    simp only [sizeL]
    rcases List.mem_cons.1 h with rfl | h
    · omega
    · have := size_mem h; omega
section
variable {R : Nat → Option (List PV)}
theorem size_loop {ts : List Ty} {a : AV} (ha : RowsA a (rowsT ts)) (hl : sizeL ts < 2 ^ 60) (ih : ∀ t ∈ ts, PureC (env R) 67 [.agg ((rowT t).map .pv)] fun r => r = I64 (size t)) {Post : AV → Prop} :
    ∀ (j i c : Nat) (s : Sto), i + j = ts.length → c + sizeL (ts.drop i) < 2 ^ 61 → Post (I64 ((c + sizeL (ts.drop i) : Nat) : Int)) → P67_1 R 0 0 0 (I64 c) a (I64 ts.length) (I64 i) s (QP Post) := by
  have h60 := sizeL_len ts
  intro j
  induction j with
  | zero =>
    intro i c s hi hc hP
    refine p67_1 ?_
    have h1 : ¬ ((i : Int) < ts.length) := by omega
    simp [h1]
    refine p67_3 ?_
    simp_all[QP,sizeL]
  | succ j ihj =>
    intro i c s hi hc hP
    refine p67_1 ?_
    have h1 : ((i : Int) < ts.length) := by omega
    obtain ⟨t, ht⟩ : ∃ t, ts[i]? = some t := ⟨_, List.getElem?_eq_getElem (by omega)⟩
    have hd := drop_cons ht
    rw [hd] at hP hc
    simp only [sizeL] at hP hc
    simp [h1]
    refine p67_2 ?_
    refine wIdx_rows ha (row := rowT t) (by omega) (by grind[rowsT_get]) (rowT_len t) (by omega) ?_
    have e3 := ih t (List.mem_of_getElem? ht)
    have e4 : size t ≤ sizeL ts := size_mem (List.mem_of_getElem? ht)
    obtain ⟨k, n, x, es⟩ := t
    simp only [rowT, List.map_cons, List.map_nil] at e3
    simp [rowT, get_app, get_app0, set_app, set_app0]
    refine wCall_pure e3 ?_
    rintro v rfl
    simp only [wInt]
    refine ⟨⟨trivial, trivial⟩, wAri_fit (by omega) (by omega) (p67_4 ?_)⟩
    simp only [wInt]
    refine ⟨⟨trivial, trivial⟩, wAri_fit (by omega) (by omega) ?_⟩
    have := ihj (i + 1) (c + size (.mk k n x es)) ⟨s.bs ++ [[I64 k, SS n, I64 x, .pv (.list (rowsT es))]], s.ts⟩ (by omega) (by omega) (by grind)
    grind
mutual
theorem size_spec : ∀ (t : Ty), size t < 2 ^ 60 → ∀ (x : AV), TRep t x → PureC (env R) 67 [x] fun r => r = I64 (size t)
  | .mk k n i ts, h, x, hx => by
    obtain ⟨a, rfl, ha⟩ := hx
    simp only [size] at h
    have ih := sizes_spec ts (by omega)
    refine e67 (u0 := .agg [I64 k, SS n, I64 i, a]) (by simp [ha.close]) (p67_0 ?_)
    simp [ha.ok, ha.lenA, rowsT_len]
    refine size_loop ha (by omega) ih ts.length 0 1 _ (by omega) (by grind) ?_
    grind[size]
theorem sizes_spec : ∀ (l : List Ty), sizeL l < 2 ^ 60 → ∀ t ∈ l, PureC (env R) 67 [.agg ((rowT t).map .pv)] fun r => r = I64 (size t)
  | [], _, _, h => by cases h
  | e :: l, ho, a, h => by
    simp only [sizeL] at ho
    rcases List.mem_cons.1 h with h' | h'
    · rw [h']
      exact size_spec e (by omega) _ (TRep.of_row e)
    · exact sizes_spec l (by omega) a h'
end
end
end Go.Proofs.YtcmeadgdojfhnaaGreatDoor
/-
  Terms: the reference's size, and both depths.
-/
namespace Go.Proofs.YtcmeadgdojfhnaaGreatDoor
open Go.Tel
attribute [local simp] wNew wBox wBoxZ markT wCond wBuild fillS wO setCells wSt wLd wPart LFE wFad alive wInt wStr wGK wGd wPick wExt wLen wSlen wNot wNil okI ceI okB ceB okS ceS okL ceL okC ceC okO ceO okP ceP okG ceG okE ceE okR ceR okF ceF okX ceX okM ceM okN ceN okNf ceNf okNi ceNi ceA roL roC roO leL leC leO tpP tpC tpO clP clC clO clF clA clT clN clL nbP nbC nbO nbN nbL toPVs
section
variable {R : Nat → Option (List PV)}
theorem rsize_loop {k i : Int} {n : List UInt8} {ts : List Ty} {a : AV} (ha : RowsA a (rowsT ts)) (hl : sizeL ts < 2 ^ 60) (ih : ∀ t ∈ ts, PureC (env R) 161 [.agg ((rowT t).map .pv)] fun r => r = I64 (size t)) {Post : AV → Prop} :
    ∀ (j q c : Nat), q + j = ts.length → c + sizeL (ts.drop q) < 2 ^ 61 → Post (I64 ((c + sizeL (ts.drop q) : Nat) : Int)) → P161_1 R 0 0 0 (.ptr 0 0) (I64 c) (I64 q) ⟨[[I64 k, SS n, I64 i, a]], []⟩ (QP Post) := by
  have h60 := sizeL_len ts
  intro j
  induction j with
  | zero =>
    intro q c hi hc hP
    refine p161_1 ?_
    have h1 : ¬ ((q : Int) < ts.length) := by omega
    simp [ha.lenA, rowsT_len, h1]
    refine p161_3 ?_
    simp_all[QP,sizeL]
  | succ j ihj =>
    intro q c hi hc hP
    refine p161_1 ?_
    have h1 : ((q : Int) < ts.length) := by omega
    obtain ⟨t, ht⟩ : ∃ t, ts[q]? = some t := ⟨_, List.getElem?_eq_getElem (by omega)⟩
    have hd := drop_cons ht
    rw [hd] at hP hc
    simp only [sizeL] at hP hc
    simp [ha.lenA, rowsT_len, h1]
    refine p161_2 ?_
    simp
    refine wIdx_rows ha (row := rowT t) (by omega) (by grind[rowsT_get]) (rowT_len t) (by omega) ?_
    have e3 := ih t (List.mem_of_getElem? ht)
    have e4 : size t ≤ sizeL ts := size_mem (List.mem_of_getElem? ht)
    obtain ⟨k, n, x, es⟩ := t
    simp only [rowT, List.map_cons, List.map_nil] at e3
    simp [rowT]
    refine wCall_pure e3 ?_
    rintro v rfl
    simp only [wInt]
    refine ⟨⟨trivial, trivial⟩, wAri_fit (by omega) (by omega) (p161_4 ?_)⟩
    simp only [wInt]
    refine ⟨⟨trivial, trivial⟩, wAri_fit (by omega) (by omega) ?_⟩
    have := ihj (q + 1) (c + size (.mk k n x es)) (by omega) (by omega) (by simpa [Nat.add_assoc] using hP)
    simpa using this
mutual
theorem rsize_spec : ∀ (t : Ty), size t < 2 ^ 60 → ∀ (x : AV), TRep t x → PureC (env R) 161 [x] fun r => r = I64 (size t)
  | .mk k n i ts, h, x, hx => by
    obtain ⟨a, rfl, ha⟩ := hx
    simp only [size] at h
    have ih := rsizes_spec ts (by omega)
    refine e161 (u0 := .agg [I64 k, SS n, I64 i, a]) (by simp [ha.close]) (p161_0 ?_)
    simp [ha.ok]
    refine rsize_loop ha (by omega) ih ts.length 0 1 (by omega) (by grind) ?_
    grind[size]
theorem rsizes_spec : ∀ (l : List Ty), sizeL l < 2 ^ 60 → ∀ t ∈ l, PureC (env R) 161 [.agg ((rowT t).map .pv)] fun r => r = I64 (size t)
  | [], _, _, h => by cases h
  | e :: l, ho, a, h => by
    simp only [sizeL] at ho
    rcases List.mem_cons.1 h with h' | h'
    · rw [h']
      exact rsize_spec e (by omega) _ (TRep.of_row e)
    · exact rsizes_spec l (by omega) a h'
end
theorem depth_loop {ts : List Ty} {a : AV} (ha : RowsA a (rowsT ts)) (hl : sizeL ts < 2 ^ 60) (ih : ∀ t ∈ ts, PureC (env R) 68 [.agg ((rowT t).map .pv)] fun r => r = I64 (depth t)) {Post : AV → Prop} :
    ∀ (j i c : Nat) (s : Sto), i + j = ts.length → c < 2 ^ 60 → Post (I64 ((max c (depthL (ts.drop i)) + 1 : Nat) : Int)) → P68_1 R 0 0 0 (I64 c) a (I64 ts.length) (I64 i) s (QP Post) := by
  have h60 := sizeL_len ts
  intro j
  induction j with
  | zero =>
    intro i c s hi hc hP
    refine p68_1 ?_
    have h1 : ¬ ((i : Int) < ts.length) := by omega
    simp [h1]
    refine p68_3 ?_
    have h2 : ts.drop i = [] := List.drop_of_length_le (by omega)
    rw [h2] at hP
    simp only [depthL, Nat.max_zero] at hP
    simp only [wInt]
    refine ⟨⟨trivial, trivial⟩, wAri_fit (by omega) (by omega) ?_⟩
    exact ⟨_, clP, by grind⟩
  | succ j ihj =>
    intro i c s hi hc hP
    refine p68_1 ?_
    have h1 : ((i : Int) < ts.length) := by omega
    obtain ⟨t, ht⟩ : ∃ t, ts[i]? = some t := ⟨_, List.getElem?_eq_getElem (by omega)⟩
    have hd := drop_cons ht
    rw [hd] at hP
    simp only [depthL] at hP
    simp [h1]
    refine p68_2 ?_
    refine wIdx_rows ha (row := rowT t) (by omega) (by grind[rowsT_get]) (rowT_len t) (by omega) ?_
    have e3 := ih t (List.mem_of_getElem? ht)
    have e4 : size t ≤ sizeL ts := size_mem (List.mem_of_getElem? ht)
    have e5 := depth_le t
    obtain ⟨k, n, x, es⟩ := t
    simp only [rowT, List.map_cons, List.map_nil] at e3
    simp [rowT, get_app, get_app0, set_app, set_app0]
    refine wCall_pure e3 ?_
    rintro v rfl
    refine wAnyT_max (x := .tmp 13) (y := .tmp 15) (t := #[3, 3]) (by rfl) rfl rfl (p68_4 ?_)
    simp only [wInt]
    refine ⟨⟨trivial, trivial⟩, wAri_fit (by omega) (by omega) ?_⟩
    have := ihj (i + 1) (max c (depth (.mk k n x es))) ⟨s.bs ++ [[I64 k, SS n, I64 x, .pv (.list (rowsT es))]], s.ts⟩ (by omega) (by omega) (by grind)
    grind
mutual
theorem depth_spec : ∀ (t : Ty), size t < 2 ^ 60 → ∀ (x : AV), TRep t x → PureC (env R) 68 [x] fun r => r = I64 (depth t)
  | .mk k n i ts, h, x, hx => by
    obtain ⟨a, rfl, ha⟩ := hx
    simp only [size] at h
    have ih := depths_spec ts (by omega)
    refine e68 (u0 := .agg [I64 k, SS n, I64 i, a]) (by simp [ha.close]) (p68_0 ?_)
    simp [ha.ok, ha.lenA, rowsT_len]
    refine depth_loop ha (by omega) ih ts.length 0 0 _ (by omega) (by omega) ?_
    rfl
theorem depths_spec : ∀ (l : List Ty), sizeL l < 2 ^ 60 → ∀ t ∈ l, PureC (env R) 68 [.agg ((rowT t).map .pv)] fun r => r = I64 (depth t)
  | [], _, _, h => by cases h
  | e :: l, ho, a, h => by
    simp only [sizeL] at ho
    rcases List.mem_cons.1 h with h' | h'
    · rw [h']
      exact depth_spec e (by omega) _ (TRep.of_row e)
    · exact depths_spec l (by omega) a h'
end
theorem rdepth_loop {k i : Int} {n : List UInt8} {ts : List Ty} {a : AV} (ha : RowsA a (rowsT ts)) (hl : sizeL ts < 2 ^ 60) (ih : ∀ t ∈ ts, PureC (env R) 162 [.agg ((rowT t).map .pv)] fun r => r = I64 (depth t)) {Post : AV → Prop} :
    ∀ (j q c : Nat), q + j = ts.length → c < 2 ^ 60 → Post (I64 ((max c (depthL (ts.drop q)) + 1 : Nat) : Int)) → P162_1 R 0 0 0 (.ptr 0 0) (I64 c) (I64 q) ⟨[[I64 k, SS n, I64 i, a]], []⟩ (QP Post) := by
  have h60 := sizeL_len ts
  intro j
  induction j with
  | zero =>
    intro q c hi hc hP
    refine p162_1 ?_
    have h1 : ¬ ((q : Int) < ts.length) := by omega
    simp [ha.lenA, rowsT_len, h1]
    refine p162_3 ?_
    have h2 : ts.drop q = [] := List.drop_of_length_le (by omega)
    rw [h2] at hP
    simp only [depthL, Nat.max_zero] at hP
    simp only [wInt]
    refine ⟨⟨trivial, trivial⟩, wAri_fit (by omega) (by omega) ?_⟩
    exact ⟨_, clP, by grind⟩
  | succ j ihj =>
    intro q c hi hc hP
    refine p162_1 ?_
    have h1 : ((q : Int) < ts.length) := by omega
    obtain ⟨t, ht⟩ : ∃ t, ts[q]? = some t := ⟨_, List.getElem?_eq_getElem (by omega)⟩
    have hd := drop_cons ht
    rw [hd] at hP
    simp only [depthL] at hP
    simp [ha.lenA, rowsT_len, h1]
    refine p162_2 ?_
    simp
    refine wIdx_rows ha (row := rowT t) (by omega) (by grind[rowsT_get]) (rowT_len t) (by omega) ?_
    have e3 := ih t (List.mem_of_getElem? ht)
    have e4 : size t ≤ sizeL ts := size_mem (List.mem_of_getElem? ht)
    have e5 := depth_le t
    obtain ⟨k, n, x, es⟩ := t
    simp only [rowT, List.map_cons, List.map_nil] at e3
    simp [rowT]
    refine wCall_pure e3 ?_
    rintro v rfl
    refine wAnyT_max (x := .tmp 12) (y := .tmp 18) (t := #[3, 3]) (by rfl) rfl rfl (p162_4 ?_)
    simp only [wInt]
    refine ⟨⟨trivial, trivial⟩, wAri_fit (by omega) (by omega) ?_⟩
    have := ihj (q + 1) (max c (depth (.mk k n x es))) (by omega) (by omega) (by grind)
    grind
mutual
theorem rdepth_spec : ∀ (t : Ty), size t < 2 ^ 60 → ∀ (x : AV), TRep t x → PureC (env R) 162 [x] fun r => r = I64 (depth t)
  | .mk k n i ts, h, x, hx => by
    obtain ⟨a, rfl, ha⟩ := hx
    simp only [size] at h
    have ih := rdepths_spec ts (by omega)
    refine e162 (u0 := .agg [I64 k, SS n, I64 i, a]) (by simp [ha.close]) (p162_0 ?_)
    simp [ha.ok]
    refine rdepth_loop ha (by omega) ih ts.length 0 0 (by omega) (by omega) ?_
    rfl
theorem rdepths_spec : ∀ (l : List Ty), sizeL l < 2 ^ 60 → ∀ t ∈ l, PureC (env R) 162 [.agg ((rowT t).map .pv)] fun r => r = I64 (depth t)
  | [], _, _, h => by cases h
  | e :: l, ho, a, h => by
    simp only [sizeL] at ho
    rcases List.mem_cons.1 h with h' | h'
    · rw [h']
      exact rdepth_spec e (by omega) _ (TRep.of_row e)
    · exact rdepths_spec l (by omega) a h'
end
end
end Go.Proofs.YtcmeadgdojfhnaaGreatDoor
/-
  Terms: free variables.
-/
namespace Go.Proofs.YtcmeadgdojfhnaaGreatDoor
open Go.Tel
attribute [local simp] wNew wBox wBoxZ markT wCond wBuild fillS wO setCells wSt wLd wPart LFE wFad alive wInt wStr wGK wGd wPick wExt wLen wSlen wNot wNil okI ceI okB ceB okS ceS okL ceL okC ceC okO ceO okP ceP okG ceG okE ceE okR ceR okF ceF okX ceX okM ceM okN ceN okNf ceNf okNi ceNi ceA roL roC roO leL leC leO tpP tpC tpO clP clC clO clF clA clT clN clL nbP nbC nbO nbN nbL toPVs
def bnd (k : Int) (j : Nat) : Nat := bif k == 6 && j == 1 then 1 else 0
mutual
def clos (u : Nat) : Ty → Bool
  | .mk k _ i ts => bif k == 5 && decide ((u : Int) ≤ i) then false else closL u k 0 ts
def closL (u : Nat) (k : Int) (j : Nat) : List Ty → Bool
  | [] => true
  | t :: l => clos (u + bnd k j) t && closL u k (j + 1) l
end
mutual
theorem eqPL_row : ∀ t : Ty, eqPL (rowT t) (rowT t) = true
  | .mk k n i ts => by simp [rowT, eqPL, eqP, eqV_int, eqV_str, eqPLL_rows ts]
theorem eqPLL_rows : ∀ l : List Ty, eqPLL (rowsT l) (rowsT l) = true
  | [] => by rfl
  | t :: l => by simp [rowsT, eqPLL, eqPL_row t, eqPLL_rows l]
end
theorem bnd_le (k : Int) (j : Nat) : bnd k j ≤ 1 := by grind[bnd]
section
variable {R : Nat → Option (List PV)}
theorem binders_spec {k i : Int} {n : List UInt8} {a : AV} {rows : List (List PV)} (ha : RowsA a rows) (j : Nat) : PureC (env R) 105 [.agg [I64 k, SS n, I64 i, a], I64 j] fun r => r = I64 (bnd k j) := by
  refine e105 (u0 := .agg [I64 k, SS n, I64 i, a]) (u1 := I64 j) (by simp [ha.close]) (p105_0 ?_)
  have h2 : (((j : Int)) == 1) = (j == 1) := by grind
  cases h1 : (k == 6) with
  | false =>
    simp [-beq_iff_eq, ha.ok, h1]
    refine p105_1 ?_
    simp[*,QP,bnd]
  | true =>
    cases h3 : (j == 1) with
    | false =>
      rw [h3] at h2
      simp [-beq_iff_eq, ha.ok, h1, h2]
      refine p105_1 ?_
      simp[*,QP,bnd]
    | true =>
      rw [h3] at h2
      simp [-beq_iff_eq, QP, QI, ha.ok, h1, h2, bnd, h3]
theorem rbinders_spec {k i : Int} {n : List UInt8} {a : AV} {rows : List (List PV)} (ha : RowsA a rows) (j : Nat) : PureC (env R) 178 [.agg [I64 k, SS n, I64 i, a], I64 j] fun r => r = I64 (bnd k j) := by
  refine e178 (u0 := .agg [I64 k, SS n, I64 i, a]) (u1 := I64 j) (by simp [ha.close]) (p178_0 ?_)
  have h2 : (((j : Int)) == 1) = (j == 1) := by grind
  cases h1 : (k == 6) with
  | false =>
    simp [-beq_iff_eq, ha.ok, h1]
    refine p178_1 ?_
    simp[*,QP,bnd]
  | true =>
    cases h3 : (j == 1) with
    | false =>
      rw [h3] at h2
      simp [-beq_iff_eq, ha.ok, h1, h2]
      refine p178_1 ?_
      simp[*,QP,bnd]
    | true =>
      rw [h3] at h2
      simp [-beq_iff_eq, QP, QI, ha.ok, h1, h2, bnd, h3]
theorem closed_loop {k i : Int} {n : List UInt8} {ts : List Ty} {a : AV} {u : Nat} (ha : RowsA a (rowsT ts)) (hl : sizeL ts < 2 ^ 60) (hu : u < 2 ^ 60)
    (ih : ∀ t ∈ ts, ∀ v, v ≤ u + 1 → PureC (env R) 122 [.agg ((rowT t).map .pv), I64 v] fun r => r = BB (clos v t)) {Post : AV → Prop} :
    ∀ (j q : Nat) (m : List (List AV)), q + j = ts.length → Post (BB (closL u k q (ts.drop q))) → P122_2 R 0 0 0 (I64 u) (.ptr 0 0) a (I64 ts.length) (I64 q) ⟨[I64 k, SS n, I64 i, a] :: m, []⟩ (QP Post) := by
  have h60 := sizeL_len ts
  intro j
  induction j with
  | zero =>
    intro q m hi hP
    refine p122_2 ?_
    have h1 : ¬ ((q : Int) < ts.length) := by omega
    simp [h1]
    refine p122_4 ?_
    simp_all[QP,closL]
  | succ j ihj =>
    intro q m hi hP
    refine p122_2 ?_
    have h1 : ((q : Int) < ts.length) := by omega
    obtain ⟨t, ht⟩ : ∃ t, ts[q]? = some t := ⟨_, List.getElem?_eq_getElem (by omega)⟩
    have hd := drop_cons ht
    rw [hd] at hP
    simp only [closL] at hP
    simp [h1]
    refine p122_3 ?_
    refine wIdx_rows ha (row := rowT t) (by omega) (by grind[rowsT_get]) (rowT_len t) (by omega) ?_
    have hb := bnd_le k q
    have e3 := ih t (List.mem_of_getElem? ht) (u + bnd k q) (by omega)
    obtain ⟨k', n', x, es⟩ := t
    simp only [rowT, List.map_cons, List.map_nil] at e3
    simp [rowT, get_app, get_app0, set_app, set_app0]
    refine wCall_pure (binders_spec ha q) ?_
    rintro v rfl
    simp only [wInt]
    refine ⟨⟨trivial, trivial⟩, wAri_fit (by omega) (by omega) ?_⟩
    have ec : (u : Int) + (bnd k q : Int) = ((u + bnd k q : Nat) : Int) := by omega
    rw [ec]
    refine wCall_pure e3 ?_
    rintro v rfl
    cases hc : clos (u + bnd k q) (.mk k' n' x es) with
    | false =>
      rw [hc] at hP
      simp [QP, QI, eqA, eqAL, eqP, eqV_int, eqV_str, eqPLL_rows]
      grind
    | true =>
      rw [hc] at hP
      simp [eqA, eqAL, eqP, eqV_int, eqV_str, eqPLL_rows]
      refine p122_5 ?_
      simp only [wInt]
      refine ⟨⟨trivial, trivial⟩, wAri_fit (by omega) (by omega) ?_⟩
      have := ihj (q + 1) (m ++ [[I64 k', SS n', I64 x, .pv (.list (rowsT es))]]) (by omega) (by simpa using hP)
      simpa using this
mutual
theorem closed_spec : ∀ (t : Ty), size t < 2 ^ 60 → ∀ (u : Nat), u + size t < 2 ^ 60 → ∀ (x : AV), TRep t x → PureC (env R) 122 [x, I64 u] fun r => r = BB (clos u t)
  | .mk k n i ts, h, u, hu, x, hx => by
    obtain ⟨a, rfl, ha⟩ := hx
    simp only [size] at h hu
    have ih := closeds_spec ts (by omega) (u + 1) (by omega)
    suffices H : ∀ Post : AV → Prop, Post (BB (clos u (.mk k n i ts))) → P122_0 R 0 0 0 (.agg [I64 k, SS n, I64 i, a]) (I64 u) ⟨[], []⟩ (QP Post) from
      e122 (u0 := .agg [I64 k, SS n, I64 i, a]) (u1 := I64 u) (by simp [ha.close]) (H _ rfl)
    intro Post hPost
    refine p122_0 ?_
    simp only [clos] at hPost
    have go : Post (BB (closL u k 0 ts)) → P122_1 R 0 0 0 (I64 u) (.ptr 0 0) ⟨[[I64 k, SS n, I64 i, a]], []⟩ (QP Post) := by
      intro hP
      refine p122_1 ?_
      simp [ha.lenA, rowsT_len]
      exact closed_loop (m := []) ha (by omega) (by omega) ih ts.length 0 (by omega) (by grind)
    cases h1 : (k == 5) with
    | false =>
      rw [h1] at hPost
      simp [-beq_iff_eq, ha.ok, h1]
      grind
    | true =>
      rw [h1] at hPost
      cases h2 : decide ((u : Int) ≤ i) with
      | true =>
        rw [h2] at hPost
        simpa [-beq_iff_eq, -decide_eq_true_eq, QP, QI, ha.ok, h1, h2] using hPost
      | false =>
        rw [h2] at hPost
        simp [-beq_iff_eq, -decide_eq_false_iff_not, ha.ok, h1, h2]
        grind
theorem closeds_spec : ∀ (l : List Ty), sizeL l < 2 ^ 60 → ∀ (w : Nat), w + sizeL l < 2 ^ 60 → ∀ t ∈ l, ∀ v, v ≤ w → PureC (env R) 122 [.agg ((rowT t).map .pv), I64 v] fun r => r = BB (clos v t)
  | [], _, _, _, _, h => by cases h
  | e :: l, ho, w, hw, a, h => by
    simp only [sizeL] at ho hw
    rcases List.mem_cons.1 h with h' | h'
    · rw [h']
      exact fun v hv => closed_spec e (by omega) v (by omega) _ (TRep.of_row e)
    · exact closeds_spec l (by omega) w (by omega) a h'
end
end
end Go.Proofs.YtcmeadgdojfhnaaGreatDoor
/-
  Terms: free variables, the reference.
-/
namespace Go.Proofs.YtcmeadgdojfhnaaGreatDoor
open Go.Tel
attribute [local simp] wNew wBox wBoxZ markT wCond wBuild fillS wO setCells wSt wLd wPart LFE wFad alive wInt wStr wGK wGd wPick wExt wLen wSlen wNot wNil okI ceI okB ceB okS ceS okL ceL okC ceC okO ceO okP ceP okG ceG okE ceE okR ceR okF ceF okX ceX okM ceM okN ceN okNf ceNf okNi ceNi ceA roL roC roO leL leC leO tpP tpC tpO clP clC clO clF clA clT clN clL nbP nbC nbO nbN nbL toPVs
mutual
def fvs (u : Nat) : Ty → List Int
  | .mk k _ i ts => (bif k == 5 && decide ((u : Int) ≤ i) then [i - u] else []) ++ fvsL u k 0 ts
def fvsL (u : Nat) (k : Int) (j : Nat) : List Ty → List Int
  | [] => []
  | t :: l => fvs (u + bnd k j) t ++ fvsL u k (j + 1) l
end
mutual
def fvr (u : Nat) : Ty → List Int
  | .mk k _ i ts => (bif k == 5 && decide ((u : Int) ≤ i) then [IntKind.i64.wrap (i - u)] else []) ++ fvrL u k 0 ts
def fvrL (u : Nat) (k : Int) (j : Nat) : List Ty → List Int
  | [] => []
  | t :: l => fvr (u + bnd k j) t ++ fvrL u k (j + 1) l
end
theorem intRows_get {l : List Int} {i : Nat} {n : Int} (h : l[i]? = some n) : (intRows l)[i]? = some [.sc (.int .i64 n)] := by grind[intRows]
theorem eqA_rows {a : AV} {ts : List Ty} (h : RowsA a (rowsT ts)) : eqA a a = true := by
  rcases h with rfl | rfl <;> simp [eqA, eqP, eqPLL_rows]
theorem eqPLL_ints : ∀ l : List Int, eqPLL (intRows l) (intRows l) = true
  | [] => by rfl
  | t :: l => by
    have := eqPLL_ints l
    grind[intRows,eqPLL,eqPL,eqP,eqV_int]
section
variable {R : Nat → Option (List PV)}
theorem iins_end {l : List Int} {x : AV} (hx : RowsA x (intRows l)) (hl : l.length < 2 ^ 40) (v : Int) {Post : AV → Prop} (hP : ∀ r m, RowsA r (intRows m) → m ≠ [] → m.length ≤ l.length + 1 → (∀ w ∈ m, w ∈ l ∨ w = v) → Post r) (q : Nat) (hq : q ≤ l.length) :
    P177_4 R 0 0 0 x (I64 v) (I64 q) ⟨[], []⟩ (QP Post) := by
  refine p177_4 ?_
  have hlen : (intRows l).length = l.length := intRows_len l
  have hall : ((intRows l).all fun r => r.length == 1) = true := by grind[intRows_row]
  have slc : ∀ (lo hi : Option AV) (a b : Nat) (s : Sto) (K : AV → Prop), optNat 0 lo = some a → optNat l.length hi = some b → a ≤ b → b ≤ l.length → K (.pv (.list (((intRows l).take b).drop a))) → wSlc s 1 x lo hi none K := by
    intro lo hi a b s K h1 h2 h3 h4 hK
    have hr := hx.rowsOf
    rcases hx with rfl | rfl
    · simp only [wSlc, hr, wO, hlen]
      exact ⟨a, b, h1, h2, ⟨h3, h4, hall⟩, hK⟩
    · simp only [wSlc, hr, wO, hlen]
      exact ⟨a, b, h1, h2, ⟨h3, h4, hall⟩, hK⟩
  have hq1 : optNat 0 (some (I64 q)) = some q := by rfl
  have hq2 : optNat l.length (some (I64 q)) = some q := by rfl
  have e0 : ((intRows l).take q).drop 0 = intRows (l.take q) := by simp[*,intRows]
  have e1 : ((intRows l).take l.length).drop q = intRows (l.drop q) := by grind[intRows,List.map_drop]
  simp [wBsl, repl, fillS, wO, toPVs, rowsBy]
  refine slc none (some (I64 q)) 0 q _ _ rfl hq2 (by omega) hq ?_
  rw [e0]
  have hL : ∀ (m : List Int), m.length = (intRows m).length := fun m => (intRows_len m).symm
  refine wApp_rows (ts := []) (x := []) (rows := []) (m := intRows (l.take q)) (.inl rfl) (by simp) (by simp) intRows_row (by omega) (srcCells_rows (.inl (.list _)) intRows_row) intRows_ok (by grind) (by grind) ?_
  intro a1 x1 ha1
  simp [wBsl, repl, fillS, wO, toPVs, rowsBy, setCells]
  refine wApp_rows (ts := []) (m := intRows [v]) ha1 (by simp) (by grind) intRows_row (by omega) (srcCells_rows (.inl (.capped _)) intRows_row) intRows_ok (by grind) (by grind) ?_
  intro a2 x2 ha2
  refine slc (some (I64 q)) none q l.length _ _ hq1 rfl hq (by omega) ?_
  rw [e1]
  have e2 : [] ++ intRows (l.take q) ++ intRows [v] = intRows (l.take q ++ [v]) := by simp [intRows]
  rw [e2] at ha2
  refine wApp_rows (ts := []) (m := intRows (l.drop q)) ha2 (by simp) intRows_row intRows_row (by omega) (srcCells_rows (.inl (.list _)) intRows_row) intRows_ok (by grind) (by grind) ?_
  intro a3 x3 ha3
  have e3 : intRows (l.take q ++ [v]) ++ intRows (l.drop q) = intRows (l.take q ++ [v] ++ l.drop q) := by simp [intRows]
  rw [e3] at ha3
  refine ⟨?_, ?_, ?_⟩
  · refine slc (some (I64 q)) none q l.length _ _ hq1 rfl hq (by omega) ?_
    grind[eqA,eqP,eqPLL_ints]
  · refine slc (some (I64 q)) none q l.length _ _ hq1 rfl hq (by omega) ?_
    grind[eqA,eqP,eqPLL_ints]
  · obtain ⟨v', h1, h2⟩ := ha3.rowsO.closed ([] : List (List AV)) 0
    exact ⟨v', h1, hP _ _ h2 (by simp) (by grind) (fun w hw => by
      simp only [List.mem_append, List.mem_singleton] at hw
      rcases hw with (hw | hw) | hw
      · exact .inl (List.mem_of_mem_take hw)
      · exact .inr hw
      · exact .inl (List.mem_of_mem_drop hw))⟩
theorem iins_mid {l : List Int} {x : AV} (hx : RowsA x (intRows l)) (hl : l.length < 2 ^ 40) (v : Int) {Post : AV → Prop} (hP : ∀ r m, RowsA r (intRows m) → m ≠ [] → m.length ≤ l.length + 1 → (∀ w ∈ m, w ∈ l ∨ w = v) → Post r) (q : Nat) (hq : q ≤ l.length) :
    P177_3 R 0 0 0 x (I64 v) (I64 q) ⟨[], []⟩ (QP Post) := by
  refine p177_3 ?_
  have hlen : (intRows l).length = l.length := intRows_len l
  by_cases h : q < l.length
  · have h1 : ((q : Int) < l.length) := by omega
    obtain ⟨t, ht⟩ : ∃ t, l[q]? = some t := ⟨_, List.getElem?_eq_getElem (by omega)⟩
    simp [hx.lenA, hlen, h1]
    refine wIdx_rows hx (row := [.sc (.int .i64 t)]) (by omega) (by grind[intRows_get]) rfl (by omega) ?_
    simp
    refine ⟨fun _ => ?_, fun _ => iins_end hx hl v hP q hq⟩
    simp [QP, QI, hx.close]
    exact hP x l hx (by intro e; rw [e] at h; simp at h) (by omega) fun w hw => .inl hw
  · have h1 : ¬ ((q : Int) < l.length) := by omega
    simp [hx.lenA, hlen, h1]
    grind[iins_end]
theorem iins_loop {l : List Int} {x : AV} (hx : RowsA x (intRows l)) (hl : l.length < 2 ^ 40) (v : Int) {Post : AV → Prop} (hP : ∀ r m, RowsA r (intRows m) → m ≠ [] → m.length ≤ l.length + 1 → (∀ w ∈ m, w ∈ l ∨ w = v) → Post r) :
    ∀ (j q : Nat), q + j = l.length → P177_1 R 0 0 0 x (I64 v) (I64 q) ⟨[], []⟩ (QP Post) := by
  have hlen : (intRows l).length = l.length := intRows_len l
  intro j
  induction j with
  | zero =>
    intro q hq
    refine p177_1 ?_
    have h1 : ¬ ((q : Int) < l.length) := by omega
    simp [hx.lenA, hlen, h1]
    grind[iins_mid]
  | succ j ih =>
    intro q hq
    refine p177_1 ?_
    have h1 : ((q : Int) < l.length) := by omega
    obtain ⟨t, ht⟩ : ∃ t, l[q]? = some t := ⟨_, List.getElem?_eq_getElem (by omega)⟩
    simp [hx.lenA, hlen, h1]
    refine wIdx_rows hx (row := [.sc (.int .i64 t)]) (by omega) (by simp[*,intRows_get]) rfl (by omega) ?_
    simp
    refine ⟨fun _ => ?_, fun _ => iins_mid hx hl v hP q (by omega)⟩
    refine p177_2 ?_
    simp only [wInt]
    refine ⟨⟨trivial, trivial⟩, wAri_fit (by omega) (by omega) ?_⟩
    have := ih (q + 1) (by omega)
    grind
theorem insertInt_spec {l : List Int} {x : AV} (hx : RowsA x (intRows l)) (hl : l.length < 2 ^ 40) (v : Int) : PureC (env R) 177 [x, I64 v] fun r => ∃ m, RowsA r (intRows m) ∧ m ≠ [] ∧ m.length ≤ l.length + 1 ∧ (∀ w ∈ m, w ∈ l ∨ w = v) := by
  refine e177 (u0 := x) (u1 := I64 v) (by simp [hx.close]) (p177_0 ?_)
  exact iins_loop hx hl v (fun r m h1 h2 h3 h4 => ⟨m, h1, h2, h3, h4⟩) l.length 0 (by omega)
theorem free_loop {k i : Int} {n : List UInt8} {ts : List Ty} {a : AV} {u : Nat} (ha : RowsA a (rowsT ts)) (hl : sizeL ts < 2 ^ 39) (hu : u < 2 ^ 60)
    (ih : ∀ t ∈ ts, ∀ v, v ≤ u + 1 → ∀ (l : List Int) (y : AV), RowsA y (intRows l) → l.length + size t < 2 ^ 40 →
      PureC (env R) 160 [.agg ((rowT t).map .pv), I64 v, y] fun r => ∃ m, RowsA r (intRows m) ∧ (m = [] ↔ l = [] ∧ clos v t = true) ∧ m.length ≤ l.length + size t ∧ (∀ w ∈ m, w ∈ l ∨ w ∈ fvr v t)) {Post : AV → Prop} :
    ∀ (j q : Nat) (l : List Int) (y : AV), RowsA y (intRows l) → l.length + sizeL (ts.drop q) < 2 ^ 40 → q + j = ts.length →
      (∀ r m, RowsA r (intRows m) → (m = [] ↔ l = [] ∧ closL u k q (ts.drop q) = true) → m.length ≤ l.length + sizeL (ts.drop q) → (∀ w ∈ m, w ∈ l ∨ w ∈ fvrL u k q (ts.drop q)) → Post r) →
      P160_2 R 0 0 0 (I64 u) y (.ptr 0 0) (I64 q) ⟨[[I64 k, SS n, I64 i, a]], []⟩ (QP Post) := by
  have h60 := sizeL_len ts
  intro j
  induction j with
  | zero =>
    intro q l y hy hc hi hP
    refine p160_2 ?_
    have h1 : ¬ ((q : Int) < ts.length) := by omega
    simp [ha.lenA, rowsT_len, h1]
    refine p160_4 ?_
    have h2 : ts.drop q = [] := List.drop_of_length_le (by omega)
    rw [h2] at hP
    exact ⟨y, hy.close _ _ _, hP y l hy (by simp [closL]) (by simp) (fun w hw => .inl hw)⟩
  | succ j ihj =>
    intro q l y hy hc hi hP
    refine p160_2 ?_
    have h1 : ((q : Int) < ts.length) := by omega
    obtain ⟨t, ht⟩ : ∃ t, ts[q]? = some t := ⟨_, List.getElem?_eq_getElem (by omega)⟩
    have hd := drop_cons ht
    rw [hd] at hP hc
    simp only [closL, fvrL, sizeL] at hP hc
    simp [ha.lenA, rowsT_len, h1]
    refine p160_3 ?_
    simp
    refine wIdx_rows ha (row := rowT t) (by omega) (by grind[rowsT_get]) (rowT_len t) (by omega) ?_
    have hb := bnd_le k q
    have e3 := ih t (List.mem_of_getElem? ht) (u + bnd k q) (by omega) l y hy (by omega)
    have hrow := rowsT_get ht
    obtain ⟨k', n', x, es⟩ := t
    simp only [rowT, List.map_cons, List.map_nil] at e3 hrow
    simp [rowT]
    refine wCall_pure (rbinders_spec ha q) ?_
    rintro v rfl
    simp only [wInt]
    refine ⟨⟨trivial, trivial⟩, wAri_fit (by omega) (by omega) ?_⟩
    have ec : (u : Int) + (bnd k q : Int) = ((u + bnd k q : Nat) : Int) := by omega
    rw [ec]
    refine wCall_pure e3 ?_
    rintro v ⟨m, hm, hmi, hml, hmw⟩
    simp [eqA, eqA_rows ha, eqAL, eqP, eqPL, eqV_int, eqV_str, eqPLL_rows]
    refine ⟨wIdx_rows ha (by omega) (by assumption) (by simp) (by omega) (by simp[*,eqA,eqP,eqPL,eqV_int,eqV_str,eqPLL_rows]), p160_5 ?_⟩
    simp only [wInt]
    refine ⟨⟨trivial, trivial⟩, wAri_fit (by omega) (by omega) ?_⟩
    have := ihj (q + 1) m v hm (by omega) (by omega) (fun r m' h1 h2 h3 h4 => hP r m' h1 (by grind) (by grind) (fun w hw => by
      rw [List.mem_append]
      rcases h4 w hw with h | h
      · rcases hmw w h with h | h
        · exact .inl h
        · exact .inr (.inl h)
      · exact .inr (.inr h)))
    grind
mutual
theorem free_spec : ∀ (t : Ty), size t < 2 ^ 39 → ∀ (u : Nat), u + size t < 2 ^ 60 → ∀ (x : AV), TRep t x → ∀ (l : List Int) (y : AV), RowsA y (intRows l) → l.length + size t < 2 ^ 40 →
    PureC (env R) 160 [x, I64 u, y] fun r => ∃ m, RowsA r (intRows m) ∧ (m = [] ↔ l = [] ∧ clos u t = true) ∧ m.length ≤ l.length + size t ∧ (∀ w ∈ m, w ∈ l ∨ w ∈ fvr u t)
  | .mk k n i ts, h, u, hu, x, hx, l, y, hy, hl => by
    obtain ⟨a, rfl, ha⟩ := hx
    simp only [size] at h hu hl
    have ih := frees_spec ts (by omega) (u + 1) (by omega)
    suffices H : ∀ Post : AV → Prop, (∀ r m, RowsA r (intRows m) → (m = [] ↔ l = [] ∧ clos u (.mk k n i ts) = true) → m.length ≤ l.length + size (.mk k n i ts) → (∀ w ∈ m, w ∈ l ∨ w ∈ fvr u (.mk k n i ts)) → Post r) → P160_0 R 0 0 0 (.agg [I64 k, SS n, I64 i, a]) (I64 u) y ⟨[], []⟩ (QP Post) from
      e160 (u0 := .agg [I64 k, SS n, I64 i, a]) (u1 := I64 u) (u2 := y) (by simp [ha.close, hy.close]) (H _ fun r m h1 h2 h3 h4 => ⟨m, h1, h2, h3, h4⟩)
    intro Post hPost
    refine p160_0 ?_
    simp only [clos, fvr, size] at hPost
    cases h1 : (k == 5) with
    | false =>
      rw [h1] at hPost
      simp [-beq_iff_eq, ha.ok, h1]
      refine p160_1 ?_
      exact free_loop ha (by omega) (by omega) ih ts.length 0 l y hy (by grind) (by omega) (fun r m a b c d => hPost r m a (by grind) (by grind) fun w hw => (d w hw).imp_right fun h => List.mem_append_right _ (by simpa using h))
    | true =>
      rw [h1] at hPost
      cases h2 : decide ((u : Int) ≤ i) with
      | true =>
        rw [h2] at hPost
        simp [-beq_iff_eq, -decide_eq_true_eq, ha.ok, h1, h2, wAri]
        refine wCall_pure (insertInt_spec hy (by omega) _) ?_
        rintro v ⟨m, hm, hne, hml, hmw⟩
        refine p160_1 ?_
        refine free_loop ha (by omega) (by omega) ih ts.length 0 m v hm (by grind) (by omega) (fun r m' a b c d => hPost r m' a ?_ (by grind) fun w hw => by
          rw [List.mem_append]
          rcases d w hw with h | h
          · rcases hmw w h with h | h
            · exact .inl h
            · exact .inr (.inl (by simp [h]))
          · exact .inr (.inr (by simpa using h)))
        grind
      | false =>
        rw [h2] at hPost
        simp [-beq_iff_eq, -decide_eq_false_iff_not, ha.ok, h1, h2]
        refine p160_1 ?_
        exact free_loop ha (by omega) (by omega) ih ts.length 0 l y hy (by grind) (by omega) (fun r m a b c d => hPost r m a (by grind) (by grind) fun w hw => (d w hw).imp_right fun h => List.mem_append_right _ (by simpa using h))
theorem frees_spec : ∀ (l : List Ty), sizeL l < 2 ^ 39 → ∀ (w : Nat), w + sizeL l < 2 ^ 60 → ∀ t ∈ l, ∀ v, v ≤ w → ∀ (z : List Int) (y : AV), RowsA y (intRows z) → z.length + size t < 2 ^ 40 →
      PureC (env R) 160 [.agg ((rowT t).map .pv), I64 v, y] fun r => ∃ m, RowsA r (intRows m) ∧ (m = [] ↔ z = [] ∧ clos v t = true) ∧ m.length ≤ z.length + size t ∧ (∀ w ∈ m, w ∈ z ∨ w ∈ fvr v t)
  | [], _, _, _, _, h => by cases h
  | e :: l, ho, w, hw, a, h => by
    simp only [sizeL] at ho hw
    rcases List.mem_cons.1 h with h' | h'
    · rw [h']
      exact fun v hv z y hy hz => free_spec e (by omega) v (by omega) _ (TRep.of_row e) z y hy hz
    · exact frees_spec l (by omega) w (by omega) a h'
end
theorem rfreeVars_spec {t : Ty} (h : size t < 2 ^ 38) {x : AV} (hx : TRep t x) : PureC (env R) 131 [x] fun r => ∃ m, RowsA r (intRows m) ∧ (∀ w ∈ m, w ∈ fvr 0 t) ∧ m.length ≤ size t := by
  have F := free_spec (R := R) t (by omega) 0 (by omega) x hx [] (.capped []) (.capped []) (by simp; omega)
  obtain ⟨k, n, i, ts⟩ := t
  obtain ⟨a, rfl, ha⟩ := hx
  refine e131 (u0 := .agg [I64 k, SS n, I64 i, a]) (by simp [ha.close]) (p131_0 ?_)
  generalize size (Ty.mk k n i ts) = z at F
  generalize fvr 0 (Ty.mk k n i ts) = fv at F
  simp [ha.ok]
  refine wCall_pure F ?_
  rintro v ⟨m, hm, _, hl, hw⟩
  exact ⟨v, hm.close _ _ _, m, hm, fun w h => by simpa using hw w h, by simpa using hl⟩
theorem termClosed_spec {t : Ty} (h : size t < 2 ^ 38) {x : AV} (hx : TRep t x) : PureC (env R) 164 [x] fun r => r = BB (clos 0 t) := by
  obtain ⟨k, n, i, ts⟩ := t
  obtain ⟨a, rfl, ha⟩ := hx
  refine e164 (u0 := .agg [I64 k, SS n, I64 i, a]) (by simp [ha.close]) (p164_0 ?_)
  simp [ha.ok]
  have e131' : PureC (env R) 131 [.agg [I64 k, SS n, I64 i, a]] fun r => ∃ m, RowsA r (intRows m) ∧ (m = [] ↔ clos 0 (.mk k n i ts) = true) := by
    refine e131 (u0 := .agg [I64 k, SS n, I64 i, a]) (by simp [ha.close]) (p131_0 ?_)
    simp [ha.ok]
    refine wCall_pure (free_spec (.mk k n i ts) (by omega) 0 (by omega) _ ⟨a, rfl, ha⟩ [] (.capped []) (.capped []) (by grind)) ?_
    rintro v ⟨m, hm, hmi, _⟩
    exact ⟨v, hm.close _ _ _, m, hm, by grind⟩
  refine wCall_pure e131' ?_
  rintro v ⟨m, hm, hmi⟩
  simp [QP, QI, hm.lenA, intRows_len]
  cases hc : clos 0 (.mk k n i ts) with
  | true =>
    grind
  | false =>
    simp[*]
end
end Go.Proofs.YtcmeadgdojfhnaaGreatDoor
/-
  Terms: plain ones.
-/
namespace Go.Proofs.YtcmeadgdojfhnaaGreatDoor
open Go.Tel
attribute [local simp] wNew wBox wBoxZ markT wCond wBuild fillS wO setCells wSt wLd wPart LFE wFad alive wInt wStr wGK wGd wPick wExt wLen wSlen wNot wNil okI ceI okB ceB okS ceS okL ceL okC ceC okO ceO okP ceP okG ceG okE ceE okR ceR okF ceF okX ceX okM ceM okN ceN okNf ceNf okNi ceNi ceA roL roC roO leL leC leO tpP tpC tpO clP clC clO clF clA clT clN clL nbP nbC nbO nbN nbL toPVs
mutual
def plain : Ty → Bool
  | .mk k n i ts => k == 5 || clos 0 (.mk k n i ts) || (k == 2 && plainL ts)
def plainL : List Ty → Bool
  | [] => true
  | t :: l => plain t && plainL l
end
section
variable {R : Nat → Option (List PV)}
theorem idx_loop {f : FuncId} {g : Ty → Bool} {ts : List Ty} {y : AV} (hy : RowsA y (rowsT ts)) (hl : sizeL ts < 2 ^ 60) (hf : ∀ t ∈ ts, PureC (env R) f [.agg ((rowT t).map .pv)] fun r => r = BB (g t)) {Post : AV → Prop} :
    ∀ (j q : Nat), q + j = ts.length → (∀ i : Int, decide (0 ≤ i) = (ts.drop q).any g → Post (I64 i)) → P94_1 R 0 0 0 y (.func (.func f) [] []) (I64 ts.length) (I64 q) ⟨[], []⟩ (QP Post) := by
  have h60 := sizeL_len ts
  intro j
  induction j with
  | zero =>
    intro q hi hP
    refine p94_1 ?_
    have h1 : ¬ ((q : Int) < ts.length) := by omega
    simp [h1]
    refine p94_3 ?_
    simp_all[QP]
  | succ j ihj =>
    intro q hi hP
    refine p94_1 ?_
    have h1 : ((q : Int) < ts.length) := by omega
    obtain ⟨t, ht⟩ : ∃ t, ts[q]? = some t := ⟨_, List.getElem?_eq_getElem (by omega)⟩
    have hd := drop_cons ht
    rw [hd] at hP
    simp [h1]
    refine p94_2 ?_
    refine wIdx_rows hy (row := rowT t) (by omega) (by simp[*,rowsT_get]) (rowT_len t) (by omega) ?_
    have e3 := hf t (List.mem_of_getElem? ht)
    cases hg : g t with
    | true =>
      rw [hg] at e3
      have := hP q (by grind)
      obtain ⟨k', n', x, es⟩ := t
      simp only [rowT, List.map_cons, List.map_nil] at e3
      simp [rowT]
      refine wCall_pure e3 ?_
      simp[*,QP]
    | false =>
      rw [hg] at e3
      simp only [List.any_cons, hg, Bool.false_or] at hP
      obtain ⟨k', n', x, es⟩ := t
      simp only [rowT, List.map_cons, List.map_nil] at e3
      simp [rowT]
      refine wCall_pure e3 ?_
      rintro v rfl
      simp
      refine p94_4 ?_
      simp only [wInt]
      refine ⟨⟨trivial, trivial⟩, wAri_fit (by omega) (by omega) ?_⟩
      have := ihj (q + 1) (by omega) hP
      simpa using this
theorem contains_spec {f : FuncId} {g : Ty → Bool} {ts : List Ty} {y : AV} (hy : RowsA y (rowsT ts)) (hl : sizeL ts < 2 ^ 60) (hf : ∀ t ∈ ts, PureC (env R) f [.agg ((rowT t).map .pv)] fun r => r = BB (g t)) :
    PureC (env R) 59 [y, .func (.func f) [] []] fun r => r = BB (ts.any g) := by
  have hi : PureC (env R) 94 [y, .func (.func f) [] []] fun r => ∃ i : Int, r = I64 i ∧ decide (0 ≤ i) = ts.any g := by
    refine e94 (by simp [noIdL, hy.noId, noId]) (p94_0 ?_)
    simp [hy.lenA, rowsT_len]
    exact idx_loop hy hl hf ts.length 0 (by omega) (fun i h => ⟨i, rfl, by grind⟩)
  refine e59 (by simp [noIdL, hy.noId, noId]) (p59_0 ?_)
  refine wCall_pure hi ?_
  rintro v ⟨i, rfl, h⟩
  simp only [wInt]
  refine ⟨⟨trivial, trivial⟩, _, clP, ?_⟩
  rw [← h]
mutual
theorem isPlain_spec : ∀ (t : Ty), size t < 2 ^ 38 → ∀ (x : AV), TRep t x → PureC (env R) 90 [x] fun r => r = BB (plain t)
  | .mk k n i ts, h, x, hx => by
    obtain ⟨a, rfl, ha⟩ := hx
    have hs := h
    simp only [size] at h
    have ih := plainArgs_spec k n i ts (by omega) a ha
    have hc : PureC (env R) 122 [.agg [I64 k, SS n, I64 i, a], I64 0] fun r => r = BB (clos 0 (.mk k n i ts)) := closed_spec (.mk k n i ts) (by omega) 0 (by omega) _ ⟨a, rfl, ha⟩
    refine e90 (u0 := .agg [I64 k, SS n, I64 i, a]) (by simp [ha.close]) (p90_0 ?_)
    cases h1 : (k == 5) with
    | true => simp [-beq_iff_eq, QP, QI, ha.ok, h1, plain]
    | false =>
      simp [-beq_iff_eq, ha.ok, h1]
      refine wCall_pure hc ?_
      rintro v rfl
      cases h2 : clos 0 (.mk k n i ts) with
      | true => simp[*,QP,plain]
      | false =>
        cases h3 : (k == 2) with
        | false => simp[*,QP,plain]
        | true =>
          have e2 : k = 2 := by grind
          subst e2
          simp
          refine wCall_pure ih ?_
          simp[*,QP,plain]
theorem plainArgs_spec (k : Int) (n : List UInt8) (i : Int) : ∀ (ts : List Ty), sizeL ts < 2 ^ 38 → ∀ (a : AV), RowsA a (rowsT ts) → PureC (env R) 123 [.agg [I64 k, SS n, I64 i, a]] fun r => r = BB (plainL ts)
  | ts, h, a, ha => by
    have ih := plains_spec ts h
    refine e123 (u0 := .agg [I64 k, SS n, I64 i, a]) (by simp [ha.close]) (p123_0 ?_)
    simp [ha.ok]
    have hf : ∀ t ∈ ts, PureC (env R) 156 [.agg ((rowT t).map .pv)] fun r => r = BB (!plain t) := by
      intro t ht
      have e := ih t ht
      refine e156 (by cases t; rfl) (p156_0 ?_)
      obtain ⟨k', n', x, es⟩ := t
      simp only [rowT, List.map_cons, List.map_nil] at e
      simp [rowT]
      refine wCall_pure e ?_
      simp[*,QP]
    refine wCall_pure (contains_spec ha (by omega) hf) ?_
    rintro v rfl
    have : (!ts.any fun t => !plain t) = plainL ts := by
      clear ih hf ha h
      induction ts with
      | nil => rfl
      | cons t l ih => grind[plainL]
    simp[*,QP]
theorem plains_spec : ∀ (l : List Ty), sizeL l < 2 ^ 38 → ∀ t ∈ l, PureC (env R) 90 [.agg ((rowT t).map .pv)] fun r => r = BB (plain t)
  | [], _, _, h => by cases h
  | e :: l, ho, a, h => by
    simp only [sizeL] at ho
    rcases List.mem_cons.1 h with h' | h'
    · rw [h']
      exact isPlain_spec e (by omega) _ (TRep.of_row e)
    · exact plains_spec l (by omega) a h'
end
theorem rplain_loop {k i : Int} {n : List UInt8} {ts : List Ty} {a : AV} (ha : RowsA a (rowsT ts)) (hl : sizeL ts < 2 ^ 38) (ih : ∀ t ∈ ts, PureC (env R) 133 [.agg ((rowT t).map .pv)] fun r => r = BB (plain t)) {Post : AV → Prop} :
    ∀ (j q : Nat), q + j = ts.length → Post (BB (k == 2 && plainL (ts.drop q))) → P133_2 R 0 0 0 (.ptr 0 0) (I64 q) ⟨[[I64 k, SS n, I64 i, a]], []⟩ (QP Post) := by
  have h60 := sizeL_len ts
  intro j
  induction j with
  | zero =>
    intro q hi hP
    refine p133_2 ?_
    have h1 : ¬ ((q : Int) < ts.length) := by omega
    simp [ha.lenA, rowsT_len, h1]
    refine p133_4 ?_
    simp_all[QP,plainL]
  | succ j ihj =>
    intro q hi hP
    refine p133_2 ?_
    have h1 : ((q : Int) < ts.length) := by omega
    obtain ⟨t, ht⟩ : ∃ t, ts[q]? = some t := ⟨_, List.getElem?_eq_getElem (by omega)⟩
    have hd := drop_cons ht
    rw [hd] at hP
    simp only [plainL] at hP
    simp [ha.lenA, rowsT_len, h1]
    refine p133_3 ?_
    simp
    refine wIdx_rows ha (row := rowT t) (by omega) (by simp[*,rowsT_get]) (rowT_len t) (by omega) ?_
    have e3 := ih t (List.mem_of_getElem? ht)
    have hr := rowT_len t
    cases hg : plain t with
    | true =>
      rw [hg] at e3 hP
      obtain ⟨k', n', x, es⟩ := t
      simp only [rowT, List.map_cons, List.map_nil] at e3
      simp [rowT]
      refine wCall_pure e3 ?_
      rintro v rfl
      simp
      refine p133_5 ?_
      simp only [wInt]
      refine ⟨⟨trivial, trivial⟩, wAri_fit (by omega) (by omega) ?_⟩
      have := ihj (q + 1) (by omega) (by simpa using hP)
      simpa using this
    | false =>
      rw [hg] at e3 hP
      obtain ⟨k', n', x, es⟩ := t
      simp only [rowT, List.map_cons, List.map_nil] at e3
      simp [rowT]
      refine wCall_pure e3 ?_
      simp_all[QP]
mutual
theorem rplain_spec : ∀ (t : Ty), size t < 2 ^ 38 → ∀ (x : AV), TRep t x → PureC (env R) 133 [x] fun r => r = BB (plain t)
  | .mk k n i ts, h, x, hx => by
    obtain ⟨a, rfl, ha⟩ := hx
    have hs := h
    simp only [size] at h
    have ih := rplains_spec ts (by omega)
    have hc : PureC (env R) 164 [.agg [I64 k, SS n, I64 i, a]] fun r => r = BB (clos 0 (.mk k n i ts)) := termClosed_spec hs ⟨a, rfl, ha⟩
    suffices H : ∀ Post : AV → Prop, Post (BB (plain (.mk k n i ts))) → P133_0 R 0 0 0 (.agg [I64 k, SS n, I64 i, a]) ⟨[], []⟩ (QP Post) from
      e133 (u0 := .agg [I64 k, SS n, I64 i, a]) (by simp [ha.close]) (H _ rfl)
    intro Post hPost
    refine p133_0 ?_
    simp only [plain] at hPost
    cases h1 : (k == 5) with
    | true =>
      rw [h1] at hPost
      simpa [-beq_iff_eq, QP, QI, ha.ok, h1] using hPost
    | false =>
      rw [h1] at hPost
      simp [-beq_iff_eq, ha.ok, h1]
      refine wCall_pure hc ?_
      rintro v rfl
      cases h2 : clos 0 (.mk k n i ts) with
      | true =>
        simp_all[QP]
      | false =>
        rw [h2] at hPost
        simp [-beq_iff_eq]
        refine p133_1 ?_
        exact rplain_loop ha (by omega) ih ts.length 0 (by omega) (by grind)
theorem rplains_spec : ∀ (l : List Ty), sizeL l < 2 ^ 38 → ∀ t ∈ l, PureC (env R) 133 [.agg ((rowT t).map .pv)] fun r => r = BB (plain t)
  | [], _, _, h => by cases h
  | e :: l, ho, a, h => by
    simp only [sizeL] at ho
    rcases List.mem_cons.1 h with h' | h'
    · rw [h']
      exact rplain_spec e (by omega) _ (TRep.of_row e)
    · exact rplains_spec l (by omega) a h'
end
end
end Go.Proofs.YtcmeadgdojfhnaaGreatDoor
/-
  Names.
-/
namespace Go.Proofs.YtcmeadgdojfhnaaGreatDoor
open Go.Tel
attribute [local simp] wNew wBox wBoxZ markT wCond wBuild fillS wO setCells wSt wLd wPart LFE wFad alive wInt wStr wGK wGd wPick wExt wLen wSlen wNot wNil okI ceI okB ceB okS ceS okL ceL okC ceC okO ceO okP ceP okG ceG okE ceE okR ceR okF ceF okX ceX okM ceM okN ceN okNf ceNf okNi ceNi ceA roL roC roO leL leC leO tpP tpC tpO clP clC clO clF clA clT clN clL nbP nbC nbO nbN nbL toPVs
def isLet (n : Int) : Bool := (decide (97 ≤ n) && decide (n ≤ 122)) || (decide (65 ≤ n) && decide (n ≤ 90))
def isDig (n : Int) : Bool := decide (48 ≤ n) && decide (n ≤ 57)
def isWB (n : Int) : Bool := isLet n || isDig n || n == 95 || n == 45
abbrev BY (n : Int) : AV := .pv (.sc (.int .u8 n))
def isId (l : List UInt8) : Bool := l != [] && decide (l.length ≤ 24) && (match l with | [] => false | c :: _ => isLet c.toNat) && l.all fun c => !((c.toNat : Int) == 45) && isWB c.toNat
def resv : List (List UInt8) := [[65, 110, 121], [78, 101, 118, 101, 114], [116, 117, 112, 108, 101], [117, 110, 105, 111, 110], [101, 120, 105, 115, 116, 115]]
section
variable {R : Nat → Option (List PV)}
theorem letter_spec (n : Int) : PureC (env R) 85 [BY n] fun r => r = BB (isLet n) := by
  refine e85 rfl (p85_0 ?_)
  by_cases h1 : 97 ≤ n <;> by_cases h2 : n ≤ 122 <;> by_cases h3 : 65 ≤ n <;> by_cases h4 : n ≤ 90 <;> simp [QP, QI, isLet, h1, h2, h3, h4]
theorem rletter_spec (n : Int) : PureC (env R) 129 [BY n] fun r => r = BB (isLet n) := by
  refine e129 rfl (p129_0 ?_)
  by_cases h1 : 97 ≤ n <;> by_cases h2 : n ≤ 122 <;> by_cases h3 : 65 ≤ n <;> by_cases h4 : n ≤ 90 <;> simp [QP, QI, isLet, h1, h2, h3, h4]
theorem digit_spec (n : Int) : PureC (env R) 121 [BY n] fun r => r = BB (isDig n) := by
  refine e121 rfl (p121_0 ?_)
  by_cases h1 : 48 ≤ n <;> by_cases h2 : n ≤ 57 <;> simp [QP, QI, isDig, h1, h2]
theorem rdigit_spec (n : Int) : PureC (env R) 159 [BY n] fun r => r = BB (isDig n) := by
  refine e159 rfl (p159_0 ?_)
  by_cases h1 : 48 ≤ n <;> by_cases h2 : n ≤ 57 <;> simp [QP, QI, isDig, h1, h2]
theorem wordByte_spec (n : Int) : PureC (env R) 88 [BY n] fun r => r = BB (isWB n) := by
  refine e88 rfl (p88_0 ?_)
  refine wCall_pure (letter_spec n) ?_
  rintro v rfl
  cases h1 : isLet n with
  | true => simp [QP, QI, isWB, h1]
  | false =>
    simp
    refine wCall_pure (digit_spec n) ?_
    rintro v rfl
    cases h2 : isDig n with
    | true => simp [QP, QI, isWB, h2]
    | false => cases h3 : (n == 95) <;> cases h4 : (n == 45) <;> simp [-beq_iff_eq, -beq_eq_false_iff_ne, QP, QI, isWB, h1, h2, h3, h4]
theorem rwordByte_spec (n : Int) : PureC (env R) 130 [BY n] fun r => r = BB (isWB n) := by
  refine e130 rfl (p130_0 ?_)
  refine wCall_pure (rletter_spec n) ?_
  rintro v rfl
  cases h1 : isLet n with
  | true => simp [QP, QI, isWB, h1]
  | false =>
    simp
    refine wCall_pure (rdigit_spec n) ?_
    rintro v rfl
    cases h2 : isDig n with
    | true => simp [QP, QI, isWB, h2]
    | false => cases h3 : (n == 95) <;> cases h4 : (n == 45) <;> simp [-beq_iff_eq, -beq_eq_false_iff_ne, QP, QI, isWB, h1, h2, h3, h4]
theorem identByte_spec (n : Int) : PureC (env R) 87 [BY n] fun r => r = BB (!(n == 45) && isWB n) := by
  refine e87 rfl (p87_0 ?_)
  cases h : (n == 45) with
  | true => simp [-beq_iff_eq, -beq_eq_false_iff_ne, QP, QI, h, bne]
  | false =>
    simp [-beq_iff_eq, -beq_eq_false_iff_ne, h, bne]
    refine wCall_pure (wordByte_spec n) ?_
    rintro v rfl
    simp [-beq_iff_eq, -beq_eq_false_iff_ne, QP, QI]
theorem every_loop {f : FuncId} {g : Int → Bool} {l : List UInt8} (hl : l.length < 2 ^ 60) (hf : ∀ n : Int, PureC (env R) f [BY n] fun r => r = BB (g n)) {Post : AV → Prop} :
    ∀ (j q : Nat), q + j = l.length → Post (BB ((l.drop q).all fun c => g c.toNat)) → P86_1 R 0 0 0 (SS l) (.func (.func f) [] []) (I64 q) ⟨[], []⟩ (QP Post) := by
  intro j
  induction j with
  | zero =>
    intro q hi hP
    refine p86_1 ?_
    have h1 : ¬ ((q : Int) < l.length) := by omega
    simp [h1]
    refine p86_3 ?_
    have h2 : l.drop q = [] := List.drop_of_length_le (by omega)
    rw [h2] at hP
    simpa [QP, QI] using hP
  | succ j ihj =>
    intro q hi hP
    refine p86_1 ?_
    have h1 : ((q : Int) < l.length) := by omega
    obtain ⟨c, hc⟩ : ∃ c, l[q]? = some c := ⟨_, List.getElem?_eq_getElem (by omega)⟩
    rw [drop_cons hc] at hP
    simp [h1]
    refine p86_2 ?_
    refine ⟨by omega, c, by simpa using hc, ?_⟩
    refine wCall_pure (hf c.toNat) ?_
    rintro v rfl
    cases hg : g c.toNat with
    | true =>
      rw [List.all_cons, hg] at hP
      simp
      refine p86_4 ?_
      simp only [wInt]
      refine ⟨⟨trivial, trivial⟩, wAri_fit (by omega) (by omega) ?_⟩
      have := ihj (q + 1) (by omega) (by simpa using hP)
      simpa using this
    | false =>
      rw [List.all_cons, hg] at hP
      simpa [QP, QI] using hP
theorem isIdent_spec {l : List UInt8} (hl : l.length < 2 ^ 60) : PureC (env R) 52 [SS l] fun r => r = BB (isId l) := by
  have ev : PureC (env R) 86 [SS l, .func (.func 87) [] []] fun r => r = BB (l.all fun c => !((c.toNat : Int) == 45) && isWB c.toNat) := by
    refine e86 (u0 := SS l) (u1 := .func (.func 87) [] []) (by simp) (p86_0 ?_)
    exact every_loop hl identByte_spec l.length 0 (by omega) (by simp)
  refine e52 (u0 := SS l) (by simp) (p52_0 ?_)
  cases l with
  | nil => simp [QP, QI, isId]
  | cons c l =>
    by_cases h1 : (c :: l).length ≤ 24
    · have h1' : (((c :: l).length : Nat) : Int) ≤ 24 := by omega
      have h1'' : ((l.length : Int) + 1 ≤ 24) := by simpa using h1'
      simp [h1'', wSidx]
      refine wCall_pure (letter_spec c.toNat) ?_
      rintro v rfl
      cases h2 : isLet c.toNat with
      | false => simp [QP, QI, isId, h2]
      | true =>
        simp
        refine wCall_pure ev ?_
        rintro v rfl
        have : l.length + 1 ≤ 24 := by simpa using h1
        simp [QP, QI, isId, h2, this]
    · have h1'' : ¬ ((l.length : Int) + 1 ≤ 24) := by simp at h1; omega
      have : ¬ (l.length + 1 ≤ 24) := by simpa using h1
      simp [QP, QI, h1'', isId, this]
theorem rident_loop {l : List UInt8} (hl : l.length < 2 ^ 60) {Post : AV → Prop} :
    ∀ (j q : Nat), q + j = l.length → Post (BB ((l.drop q).all fun c => !((c.toNat : Int) == 45) && isWB c.toNat)) → P96_2 R 0 0 0 (SS l) (I64 q) ⟨[], []⟩ (QP Post) := by
  intro j
  induction j with
  | zero =>
    intro q hi hP
    refine p96_2 ?_
    have h1 : ¬ ((q : Int) < l.length) := by omega
    simp [h1]
    refine p96_4 ?_
    have h2 : l.drop q = [] := List.drop_of_length_le (by omega)
    rw [h2] at hP
    simpa [QP, QI] using hP
  | succ j ihj =>
    intro q hi hP
    refine p96_2 ?_
    have h1 : ((q : Int) < l.length) := by omega
    obtain ⟨c, hc⟩ : ∃ c, l[q]? = some c := ⟨_, List.getElem?_eq_getElem (by omega)⟩
    rw [drop_cons hc] at hP
    simp [h1]
    refine p96_3 ?_
    refine ⟨by omega, c, by simpa using hc, ?_⟩
    refine wCall_pure (rwordByte_spec c.toNat) ?_
    rintro v rfl
    cases hg : isWB c.toNat with
    | false =>
      rw [List.all_cons, hg, Bool.and_false, Bool.false_and] at hP
      simpa [QP, QI] using hP
    | true =>
      rw [List.all_cons, hg, Bool.and_true] at hP
      simp
      refine ⟨by omega, c, by simpa using hc, ?_⟩
      by_cases h45 : ((c.toNat : Int) = 45)
      · have h45' : ((c.toNat : Int) == 45) = true := by simpa using h45
        rw [h45', Bool.not_true, Bool.false_and] at hP
        simp [QP, QI]
        exact ⟨fun _ => hP, fun h => absurd h45 h⟩
      · have h45' : ((c.toNat : Int) == 45) = false := by simpa using h45
        rw [h45', Bool.not_false, Bool.true_and] at hP
        simp
        refine ⟨fun h => absurd h h45, fun _ => p96_5 ?_⟩
        simp only [wInt]
        refine ⟨⟨trivial, trivial⟩, wAri_fit (by omega) (by omega) ?_⟩
        have := ihj (q + 1) (by omega) (by simpa using hP)
        simpa using this
theorem rident_spec {l : List UInt8} (hl : l.length < 2 ^ 60) : PureC (env R) 96 [SS l] fun r => r = BB (isId l) := by
  refine e96 (u0 := SS l) (by simp) (p96_0 ?_)
  cases l with
  | nil => simp [QP, QI, isId]
  | cons c l =>
    have h0 : ¬ ((l.length : Int) + 1 < 1) := by omega
    by_cases h1 : l.length + 1 ≤ 24
    · have h1'' : ¬ (24 < (l.length : Int) + 1) := by omega
      simp [h0, h1'', wSidx]
      refine wCall_pure (rletter_spec c.toNat) ?_
      rintro v rfl
      cases h2 : isLet c.toNat with
      | false => simp [QP, QI, isId, h2]
      | true =>
        simp
        refine p96_1 ?_
        refine rident_loop hl (c :: l).length 0 (by omega) ?_
        simp [isId, h2, h1]
    · have h1'' : (24 < (l.length : Int) + 1) := by omega
      simp [QP, QI, h0, h1'', isId, h1]
theorem keyword_spec {l : List UInt8} : PureC (env R) 97 [SS l] fun r => r = BB (resv.contains l) := by
  refine e97 (u0 := SS l) (by simp) (p97_0 ?_)
  by_cases h1 : l = [65, 110, 121]
  · subst h1; simp [QP, QI, resv]
  by_cases h2 : l = [78, 101, 118, 101, 114]
  · subst h2; simp [QP, QI, resv]
  by_cases h3 : l = [116, 117, 112, 108, 101]
  · subst h3; simp [QP, QI, resv]
  by_cases h4 : l = [117, 110, 105, 111, 110]
  · subst h4; simp [QP, QI, resv]
  by_cases h5 : l = [101, 120, 105, 115, 116, 115]
  · subst h5; simp [QP, QI, resv]
  have b1 : (l == [65, 110, 121]) = false := by simpa using h1
  have b2 : (l == [78, 101, 118, 101, 114]) = false := by simpa using h2
  have b3 : (l == [116, 117, 112, 108, 101]) = false := by simpa using h3
  have b4 : (l == [117, 110, 105, 111, 110]) = false := by simpa using h4
  have b5 : (l == [101, 120, 105, 115, 116, 115]) = false := by simpa using h5
  have b : resv.contains l = false := by simp [resv, h1, h2, h3, h4, h5]
  simp [-beq_iff_eq, -beq_eq_false_iff_ne, -List.contains_eq_mem, QP, QI, b, b1, b2, b3, b4, b5]
def strRows (l : List (List UInt8)) : List (List PV) := l.map fun s => [.sc (.string ⟨s.toArray⟩)]
theorem strRows_len (l : List (List UInt8)) : (strRows l).length = l.length := by simp [strRows]
theorem strRows_get {l : List (List UInt8)} {i : Nat} {n : List UInt8} (h : l[i]? = some n) : (strRows l)[i]? = some [.sc (.string ⟨n.toArray⟩)] := by simp [strRows, h]
theorem index_loop {l : List (List UInt8)} {w : List UInt8} {y : AV} (hy : RowsA y (strRows l)) (hl : l.length < 2 ^ 60) {Post : AV → Prop} :
    ∀ (j q : Nat), q + j = l.length → (∀ i : Int, decide (0 ≤ i) = (l.drop q).contains w → Post (I64 i)) → P89_1 R 0 0 0 y (SS w) (I64 l.length) (I64 q) ⟨[], []⟩ (QP Post) := by
  intro j
  induction j with
  | zero =>
    intro q hi hP
    refine p89_1 ?_
    have h1 : ¬ ((q : Int) < l.length) := by omega
    simp [h1]
    refine p89_3 ?_
    have h2 : l.drop q = [] := List.drop_of_length_le (by omega)
    rw [h2] at hP
    have := hP (-1) (by simp)
    simpa [QP, QI] using this
  | succ j ihj =>
    intro q hi hP
    refine p89_1 ?_
    have h1 : ((q : Int) < l.length) := by omega
    obtain ⟨t, ht⟩ : ∃ t, l[q]? = some t := ⟨_, List.getElem?_eq_getElem (by omega)⟩
    rw [drop_cons ht] at hP
    simp [h1]
    refine p89_2 ?_
    refine wIdx_rows hy (row := [.sc (.string ⟨t.toArray⟩)]) (by omega) (by simpa using strRows_get ht) rfl (by omega) ?_
    by_cases hw : w = t
    · subst hw
      have := hP q (by simp)
      simpa [QP, QI] using this
    · simp [hw]
      refine p89_4 ?_
      simp only [wInt]
      refine ⟨⟨trivial, trivial⟩, wAri_fit (by omega) (by omega) ?_⟩
      have := ihj (q + 1) (by omega) (fun i h => hP i (by rw [h]; simp [hw]))
      simpa using this
theorem containsS_spec {l : List (List UInt8)} {w : List UInt8} {y : AV} (hy : RowsA y (strRows l)) (hl : l.length < 2 ^ 60) : PureC (env R) 53 [y, SS w] fun r => r = BB (l.contains w) := by
  have hi : PureC (env R) 89 [y, SS w] fun r => ∃ i : Int, r = I64 i ∧ decide (0 ≤ i) = l.contains w := by
    refine e89 (u0 := y) (u1 := SS w) (by simp [hy.close]) (p89_0 ?_)
    simp [hy.lenA, strRows_len]
    exact index_loop hy hl l.length 0 (by omega) (fun i h => ⟨i, rfl, by simpa using h⟩)
  refine e53 (u0 := y) (u1 := SS w) (by simp [hy.close]) (p53_0 ?_)
  refine wCall_pure hi ?_
  rintro v ⟨i, rfl, h⟩
  simp only [wInt]
  refine ⟨⟨trivial, trivial⟩, _, clP, ?_⟩
  rw [← h]
end
end Go.Proofs.YtcmeadgdojfhnaaGreatDoor
/-
  Terms: validity.
-/
namespace Go.Proofs.YtcmeadgdojfhnaaGreatDoor
open Go.Tel
attribute [local simp] wNew wBox wBoxZ markT wCond wBuild fillS wO setCells wSt wLd wPart LFE wFad alive wInt wStr wGK wGd wPick wExt wLen wSlen wNot wNil okI ceI okB ceB okS ceS okL ceL okC ceC okO ceO okP ceP okG ceG okE ceE okR ceR okF ceF okX ceX okM ceM okN ceN okNf ceNf okNi ceNi ceA roL roC roO leL leC leO tpP tpC tpO clP clC clO clF clA clT clN clL nbP nbC nbO nbN nbL toPVs
def first0 : List Ty → Bool
  | [] => false
  | t :: _ => clos 0 t
def shape (k : Int) (n : List UInt8) (i : Int) (ts : List Ty) : Bool :=
  bif k == 0 || k == 1 then ts.length == 0
  else bif k == 2 then isId n && !resv.contains n && decide (ts.length ≤ 6) && plainL ts
  else bif k == 3 then decide (ts.length ≤ 6)
  else bif k == 4 then decide (2 ≤ ts.length)
  else bif k == 5 then ts.length == 0 && decide (0 ≤ i) && decide (i ≤ 200)
  else bif k == 6 then ts.length == 2 && first0 ts
  else false
def root (k : Int) (n : List UInt8) (i : Int) (ts : List Ty) : Bool := (k == 2 || n == []) && (k == 5 || i == 0) && shape k n i ts
mutual
def valid : Ty → Bool
  | .mk k n i ts => root k n i ts && validL ts
def validL : List Ty → Bool
  | [] => true
  | t :: l => valid t && validL l
end
def okN (n : List UInt8) : Prop := n.length < 2 ^ 60
mutual
def okT : Ty → Prop
  | .mk _ n _ ts => okN n ∧ okTs ts
def okTs : List Ty → Prop
  | [] => True
  | t :: l => okT t ∧ okTs l
end
section
variable {R : Nat → Option (List PV)}
theorem env_G6 : (env R).G 3 = some (strRow resv) := rfl
theorem resv_rows : strRow resv = [.list (strRows resv)] := rfl
section
variable {k i : Int} {n : List UInt8} {ts : List Ty} {a : AV} {Post : AV → Prop}
theorem sh0 (ha : RowsA a (rowsT ts)) (hP : Post (BB (ts.length == 0))) : P102_2 R 0 0 0 (.ptr 0 0) (I64 k) (BB true) ⟨[[I64 k, SS n, I64 i, a]], []⟩ (QP Post) := by
  refine p102_2 ⟨fun _ => ?_, by simp⟩
  have e : ((ts.length : Int) == 0) = (ts.length == 0) := by grind
  simpa [-beq_iff_eq, -beq_eq_false_iff_ne, QP, QI, ha.lenA, rowsT_len, e] using hP
theorem sh2 (ha : RowsA a (rowsT ts)) (hs : sizeL ts < 2 ^ 38) (hn : okN n) (hP : Post (BB (isId n && !resv.contains n && decide (ts.length ≤ 6) && plainL ts))) :
    P102_2 R 0 0 0 (.ptr 0 0) (I64 2) (BB false) ⟨[[I64 2, SS n, I64 i, a]], []⟩ (QP Post) := by
  have hlen := sizeL_len ts
  refine p102_2 ⟨by simp, fun _ => ⟨⟨rfl, rfl⟩, ⟨fun _ => ?_, by simp⟩⟩⟩
  simp only [wNew, wBox, wBoxZ, markT, wCond, wBuild, fillS, wO, setCells, wSt, wLd, wPart, LFE, wFad, alive, wInt, wStr, wGK, wGd, wPick, wExt, wLen, wSlen, wNot, wNil, okI, ceI, okB, ceB, okS, ceS, okL, ceL, okC, ceC, okO, ceO, okP, ceP, okG, ceG, okE, ceE, okR, ceR, okF, ceF, okX, ceX, okM, ceM, okN, ceN, okNf, ceNf, okNi, ceNi, ceA, roL, roC, roO, leL, leC, leO, tpP, tpC, tpO, clP, clC, clO, clF, clA, clT, clN, clL, nbP, nbC, nbO, nbN, nbL, toPVs]
  simp only [List.getElem?_cons_zero, List.getElem?_cons_succ, List.length_cons, Nat.zero_add, if_true]
  refine ⟨trivial, wCall_pure (isIdent_spec hn) ?_⟩
  rintro v rfl
  cases c1 : isId n with
  | false =>
    rw [c1] at hP
    simpa [QP, QI] using hP
  | true =>
    simp [env_G6, resv_rows]
    refine wCall_pure (containsS_spec (.list _) (by simp [resv])) ?_
    rintro v rfl
    cases c2 : resv.contains n with
    | true =>
      simp_all[QP]
    | false =>
      rw [c1, c2] at hP
      by_cases c3 : ts.length ≤ 6
      · have c3' : ((ts.length : Int) ≤ 6) := by omega
        rw [decide_eq_true c3] at hP
        simp [ha.lenA, rowsT_len, c3']
        refine wCall_pure (plainArgs_spec 2 n i ts hs a ha) ?_
        simp_all[QP]
      · have c3' : ¬ ((ts.length : Int) ≤ 6) := by omega
        rw [decide_eq_false c3] at hP
        simpa [QP, QI, ha.lenA, rowsT_len, c3'] using hP
theorem sh3 (ha : RowsA a (rowsT ts)) (hP : Post (BB (decide (ts.length ≤ 6)))) : P102_2 R 0 0 0 (.ptr 0 0) (I64 3) (BB false) ⟨[[I64 3, SS n, I64 i, a]], []⟩ (QP Post) := by
  refine p102_2 ⟨by simp, fun _ => ⟨⟨rfl, rfl⟩, ⟨by simp, fun _ => ⟨⟨rfl, rfl⟩, ⟨fun _ => ?_, by simp⟩⟩⟩⟩⟩
  have e : decide ((ts.length : Int) ≤ 6) = decide (ts.length ≤ 6) := by grind
  simpa [-decide_eq_true_eq, QP, QI, ha.lenA, rowsT_len, e] using hP
theorem sh4 (ha : RowsA a (rowsT ts)) (hP : Post (BB (decide (2 ≤ ts.length)))) : P102_2 R 0 0 0 (.ptr 0 0) (I64 4) (BB false) ⟨[[I64 4, SS n, I64 i, a]], []⟩ (QP Post) := by
  refine p102_2 ⟨by simp, fun _ => ⟨⟨rfl, rfl⟩, ⟨by simp, fun _ => ⟨⟨rfl, rfl⟩, ⟨by simp, fun _ => ⟨⟨rfl, rfl⟩, ⟨fun _ => ?_, by simp⟩⟩⟩⟩⟩⟩⟩
  have e : decide (2 ≤ (ts.length : Int)) = decide (2 ≤ ts.length) := by grind
  simpa [-decide_eq_true_eq, QP, QI, ha.lenA, rowsT_len, e] using hP
theorem sh5 (ha : RowsA a (rowsT ts)) (hP : Post (BB (ts.length == 0 && decide (0 ≤ i) && decide (i ≤ 200)))) : P102_2 R 0 0 0 (.ptr 0 0) (I64 5) (BB false) ⟨[[I64 5, SS n, I64 i, a]], []⟩ (QP Post) := by
  refine p102_2 ⟨by simp, fun _ => ⟨⟨rfl, rfl⟩, ⟨by simp, fun _ => ⟨⟨rfl, rfl⟩, ⟨by simp, fun _ => ⟨⟨rfl, rfl⟩, ⟨by simp, fun _ => ⟨⟨rfl, rfl⟩, ⟨fun _ => ?_, by simp⟩⟩⟩⟩⟩⟩⟩⟩⟩
  cases ts with
  | cons t l =>
    have c' : ¬ ((l.length : Int) + 1 = 0) := by omega
    have b' : ((l.length : Int) + 1 == 0) = false := by rfl
    simpa [-beq_iff_eq, -beq_eq_false_iff_ne, QP, QI, ha.lenA, rowsT_len, b'] using hP
  | nil =>
    by_cases c1 : 0 ≤ i
    · by_cases c2 : i ≤ 200
      · simpa [QP, QI, ha.lenA, rowsT_len, c1, c2] using hP
      · simpa [QP, QI, ha.lenA, rowsT_len, c1, c2] using hP
    · simpa [QP, QI, ha.lenA, rowsT_len, c1] using hP
theorem sh6 (ha : RowsA a (rowsT ts)) (hs : sizeL ts < 2 ^ 38) (hP : Post (BB (ts.length == 2 && first0 ts))) : P102_2 R 0 0 0 (.ptr 0 0) (I64 6) (BB false) ⟨[[I64 6, SS n, I64 i, a]], []⟩ (QP Post) := by
  refine p102_2 ⟨by simp, fun _ => ⟨⟨rfl, rfl⟩, ⟨by simp, fun _ => ⟨⟨rfl, rfl⟩, ⟨by simp, fun _ => ⟨⟨rfl, rfl⟩, ⟨by simp, fun _ => ⟨⟨rfl, rfl⟩, ⟨by simp, fun _ => ⟨⟨rfl, rfl⟩, ⟨fun _ => ?_, by simp⟩⟩⟩⟩⟩⟩⟩⟩⟩⟩⟩
  by_cases c : ts.length = 2
  · have c' : ((ts.length : Int) = 2) := by omega
    obtain ⟨t, l, rfl⟩ : ∃ t l, ts = t :: l := by
      cases ts with
      | nil => grind
      | cons t l => simp
    simp only [sizeL] at hs
    have e3 : PureC (env R) 122 [.agg ((rowT t).map .pv), I64 0] fun r => r = BB (clos 0 t) := closed_spec t (by omega) 0 (by omega) _ (TRep.of_row t)
    have hP' : Post (BB (clos 0 t)) := by grind[first0]
    have c'' : ((l.length : Int) + 1 = 2) := by grind
    simp [ha.lenA, rowsT_len, c'']
    refine wIdx_rows ha (row := rowT t) (by omega) (by rfl) (rowT_len t) (by omega) ?_
    obtain ⟨k', n', x, es⟩ := t
    simp only [rowT, List.map_cons, List.map_nil] at e3
    simp [rowT]
    refine wCall_pure e3 ?_
    simp[*,QP]
  · have c' : ¬ ((ts.length : Int) = 2) := by omega
    have b : (ts.length == 2) = false := by grind
    rw [b] at hP
    have b' : ((ts.length : Int) == 2) = false := by grind
    simpa [-beq_iff_eq, -beq_eq_false_iff_ne, QP, QI, ha.lenA, rowsT_len, b'] using hP
theorem sh7 (h2 : ¬ k = 2) (h3 : ¬ k = 3) (h4 : ¬ k = 4) (h5 : ¬ k = 5) (h6 : ¬ k = 6) (hP : Post (BB false)) : P102_2 R 0 0 0 (.ptr 0 0) (I64 k) (BB false) ⟨[[I64 k, SS n, I64 i, a]], []⟩ (QP Post) := by
  refine p102_2 ⟨by simp, fun _ => ⟨⟨rfl, rfl⟩, ⟨by grind, fun _ => ⟨⟨rfl, rfl⟩, ⟨by grind, fun _ => ⟨⟨rfl, rfl⟩, ⟨by grind, fun _ => ⟨⟨rfl, rfl⟩, ⟨by grind, fun _ => ⟨⟨rfl, rfl⟩, ⟨by grind, fun _ => p102_3 ?_⟩⟩⟩⟩⟩⟩⟩⟩⟩⟩⟩
  exact ⟨_, clP, hP⟩
theorem shape_points (ha : RowsA a (rowsT ts)) (hs : sizeL ts < 2 ^ 38) (hn : okN n) (hP : Post (BB (shape k n i ts))) : P102_1 R 0 0 0 (.ptr 0 0) ⟨[[I64 k, SS n, I64 i, a]], []⟩ (QP Post) := by
  refine p102_1 ?_
  by_cases h0 : k = 0
  · subst h0
    simp
    grind[sh0,shape]
  by_cases h1 : k = 1
  · subst h1
    simp
    grind[sh0,shape]
  have b0 : (k == 0) = false := by grind
  have b1 : (k == 1) = false := by grind
  simp [h0]
  grind[sh2,shape,sh3,sh4,sh5,sh6,sh7]
end
theorem validNode_spec {k i : Int} {n : List UInt8} {ts : List Ty} {a : AV} (ha : RowsA a (rowsT ts)) (hs : sizeL ts < 2 ^ 38) (hn : okN n) : PureC (env R) 102 [.agg [I64 k, SS n, I64 i, a]] fun r => r = BB (root k n i ts) := by
  suffices H : ∀ Post : AV → Prop, Post (BB (root k n i ts)) → P102_0 R 0 0 0 (.agg [I64 k, SS n, I64 i, a]) ⟨[], []⟩ (QP Post) from
    e102 (u0 := .agg [I64 k, SS n, I64 i, a]) (by simp [ha.close]) (H _ rfl)
  intro Post hP
  refine p102_0 ?_
  unfold root at hP
  cases b2 : (k == 2) with
  | true =>
    have e2 : k = 2 := by grind
    subst e2
    by_cases hi : i = 0
    · subst hi
      simp [ha.ok]
      grind[shape_points]
    · have bi : (i == 0) = false := by grind
      rw [bi] at hP
      simpa [QP, QI, ha.ok, hi, bne, bi] using hP
  | false =>
    have e2 : ¬ k = 2 := by grind
    rw [b2] at hP
    by_cases hn0 : n = []
    · subst hn0
      cases b5 : (k == 5) with
      | true =>
        have e5 : k = 5 := by grind
        subst e5
        simp [ha.ok]
        grind[shape_points]
      | false =>
        have e5 : ¬ k = 5 := by grind
        rw [b5] at hP
        by_cases hi : i = 0
        · subst hi
          simp [ha.ok, e2, e5, bne, b2, b5]
          grind[shape_points]
        · have bi : (i == 0) = false := by grind
          rw [bi] at hP
          simpa [QP, QI, ha.ok, e2, e5, hi, bne, b2, b5, bi] using hP
    · have bn : (n == []) = false := by grind
      rw [bn] at hP
      simpa [QP, QI, ha.ok, e2, hn0, bne, b2, bn] using hP
end
end Go.Proofs.YtcmeadgdojfhnaaGreatDoor
/-
  Terms: validity, both versions.
-/
namespace Go.Proofs.YtcmeadgdojfhnaaGreatDoor
open Go.Tel
attribute [local simp] wNew wBox wBoxZ markT wCond wBuild fillS wO setCells wSt wLd wPart LFE wFad alive wInt wStr wGK wGd wPick wExt wLen wSlen wNot wNil okI ceI okB ceB okS ceS okL ceL okC ceC okO ceO okP ceP okG ceG okE ceE okR ceR okF ceF okX ceX okM ceM okN ceN okNf ceNf okNi ceNi ceA roL roC roO leL leC leO tpP tpC tpO clP clC clO clF clA clT clN clL nbP nbC nbO nbN nbL toPVs
def verdict (t : Ty) : Int := bif decide (200 < size t) || decide (12 < depth t) then 4 else bif valid t then 0 else 2
section
variable {R : Nat → Option (List PV)}
mutual
theorem validNodes_spec : ∀ (t : Ty), size t < 2 ^ 38 → okT t → ∀ (x : AV), TRep t x → PureC (env R) 69 [x] fun r => r = BB (valid t)
  | .mk k n i ts, h, ho, x, hx => by
    obtain ⟨a, rfl, ha⟩ := hx
    simp only [size] at h
    simp only [okT] at ho
    have ih := validNodesL_spec ts (by omega) ho.2
    refine e69 (u0 := .agg [I64 k, SS n, I64 i, a]) (by simp [ha.close]) (p69_0 ?_)
    simp [ha.ok]
    refine wCall_pure (validNode_spec ha (by omega) ho.1) ?_
    rintro v rfl
    cases hr : root k n i ts with
    | false => simp[*,QP,valid]
    | true =>
      have hf : ∀ t ∈ ts, PureC (env R) 103 [.agg ((rowT t).map .pv)] fun r => r = BB (!valid t) := by
        intro t ht
        have e := ih t ht
        refine e103 (by cases t; rfl) (p103_0 ?_)
        obtain ⟨k', n', x, es⟩ := t
        simp only [rowT, List.map_cons, List.map_nil] at e
        simp [rowT]
        refine wCall_pure e ?_
        simp[*,QP]
      simp
      refine wCall_pure (contains_spec ha (by omega) hf) ?_
      rintro v rfl
      have : (!ts.any fun t => !valid t) = validL ts := by
        clear ih hf ha h hr ho
        induction ts with
        | nil => rfl
        | cons t l ih => grind[validL]
      simp[*,QP,valid]
theorem validNodesL_spec : ∀ (l : List Ty), sizeL l < 2 ^ 38 → okTs l → ∀ t ∈ l, PureC (env R) 69 [.agg ((rowT t).map .pv)] fun r => r = BB (valid t)
  | [], _, _, _, h => by cases h
  | e :: l, ho, hk, a, h => by
    simp only [sizeL] at ho
    simp only [okTs] at hk
    rcases List.mem_cons.1 h with h' | h'
    · rw [h']
      exact validNodes_spec e (by omega) hk.1 _ (TRep.of_row e)
    · exact validNodesL_spec l (by omega) hk.2 a h'
end
section
variable {k i : Int} {n : List UInt8} {ts : List Ty} {a : AV} {Post : AV → Prop}
theorem wf_loop (ha : RowsA a (rowsT ts)) (hl : sizeL ts < 2 ^ 38) (ih : ∀ t ∈ ts, PureC (env R) 163 [.agg ((rowT t).map .pv)] fun r => r = BB (valid t)) :
    ∀ (j q : Nat), q + j = ts.length → Post (BB (validL (ts.drop q))) → P163_6 R 0 0 0 (.ptr 0 0) (I64 ts.length) (I64 q) ⟨[[I64 k, SS n, I64 i, a]], []⟩ (QP Post) := by
  have h60 := sizeL_len ts
  intro j
  induction j with
  | zero =>
    intro q hi hP
    refine p163_6 ?_
    have h1 : ¬ ((q : Int) < ts.length) := by omega
    simp [h1]
    refine p163_9 ?_
    simp_all[QP,validL]
  | succ j ihj =>
    intro q hi hP
    refine p163_6 ?_
    have h1 : ((q : Int) < ts.length) := by omega
    obtain ⟨t, ht⟩ : ∃ t, ts[q]? = some t := ⟨_, List.getElem?_eq_getElem (by omega)⟩
    have hd := drop_cons ht
    rw [hd] at hP
    simp only [validL] at hP
    simp [h1]
    refine p163_8 ?_
    simp
    refine wIdx_rows ha (row := rowT t) (by omega) (by simp[*,rowsT_get]) (rowT_len t) (by omega) ?_
    have e3 := ih t (List.mem_of_getElem? ht)
    cases hg : valid t with
    | true =>
      rw [hg] at e3 hP
      obtain ⟨k', n', x, es⟩ := t
      simp only [rowT, List.map_cons, List.map_nil] at e3
      simp [rowT]
      refine wCall_pure e3 ?_
      rintro v rfl
      simp
      refine p163_11 ?_
      simp only [wInt]
      refine ⟨⟨trivial, trivial⟩, wAri_fit (by omega) (by omega) ?_⟩
      have := ihj (q + 1) (by omega) (by simpa using hP)
      simpa using this
    | false =>
      rw [hg] at e3 hP
      obtain ⟨k', n', x, es⟩ := t
      simp only [rowT, List.map_cons, List.map_nil] at e3
      simp [rowT]
      refine wCall_pure e3 ?_
      simp_all[QP]
theorem wf_args (ha : RowsA a (rowsT ts)) (hl : sizeL ts < 2 ^ 38) (ih : ∀ t ∈ ts, PureC (env R) 163 [.agg ((rowT t).map .pv)] fun r => r = BB (valid t)) (hP : Post (BB (validL ts))) :
    P163_4 R 0 0 0 (.ptr 0 0) (I64 ts.length) ⟨[[I64 k, SS n, I64 i, a]], []⟩ (QP Post) :=
  p163_4 (wf_loop ha hl ih ts.length 0 (by omega) (by grind))
theorem wfp_loop (ha : RowsA a (rowsT ts)) (hl : sizeL ts < 2 ^ 38) (ih : ∀ t ∈ ts, PureC (env R) 163 [.agg ((rowT t).map .pv)] fun r => r = BB (valid t)) :
    ∀ (j q : Nat), q + j = ts.length → Post (BB (plainL (ts.drop q) && validL ts)) → P163_5 R 0 0 0 (.ptr 0 0) (I64 ts.length) (I64 q) ⟨[[I64 k, SS n, I64 i, a]], []⟩ (QP Post) := by
  have h60 := sizeL_len ts
  intro j
  induction j with
  | zero =>
    intro q hi hP
    refine p163_5 ?_
    simp_all[wf_args,plainL]
  | succ j ihj =>
    intro q hi hP
    refine p163_5 ?_
    have h1 : ((q : Int) < ts.length) := by omega
    obtain ⟨t, ht⟩ : ∃ t, ts[q]? = some t := ⟨_, List.getElem?_eq_getElem (by omega)⟩
    have hd := drop_cons ht
    rw [hd] at hP
    simp only [plainL] at hP
    simp [h1]
    refine p163_7 ?_
    simp
    refine wIdx_rows ha (row := rowT t) (by omega) (by simp[*,rowsT_get]) (rowT_len t) (by omega) ?_
    have e3 := rplains_spec (R := R) ts hl t (List.mem_of_getElem? ht)
    cases hg : plain t with
    | true =>
      rw [hg] at e3 hP
      obtain ⟨k', n', x, es⟩ := t
      simp only [rowT, List.map_cons, List.map_nil] at e3
      simp [rowT]
      refine wCall_pure e3 ?_
      rintro v rfl
      simp
      refine p163_10 ?_
      simp only [wInt]
      refine ⟨⟨trivial, trivial⟩, wAri_fit (by omega) (by omega) ?_⟩
      have := ihj (q + 1) (by omega) (by simpa using hP)
      simpa using this
    | false =>
      rw [hg] at e3 hP
      obtain ⟨k', n', x, es⟩ := t
      simp only [rowT, List.map_cons, List.map_nil] at e3
      simp [rowT]
      refine wCall_pure e3 ?_
      simp_all[QP]
theorem wf0 (hP : Post (BB (ts.length == 0 && validL ts))) : P163_2 R 0 0 0 (.ptr 0 0) (I64 ts.length) (I64 k) (BB true) ⟨[[I64 k, SS n, I64 i, a]], []⟩ (QP Post) := by
  refine p163_2 ⟨fun _ => ?_, by simp⟩
  cases ts with
  | nil => simp_all[QP,validL]
  | cons t l =>
    have b : ((l.length : Int) + 1 == 0) = false := by rfl
    simpa [-beq_iff_eq, -beq_eq_false_iff_ne, QP, QI, b] using hP
theorem wf5 (hP : Post (BB (ts.length == 0 && decide (0 ≤ i) && decide (i ≤ 200) && validL ts))) : P163_2 R 0 0 0 (.ptr 0 0) (I64 ts.length) (I64 5) (BB false) ⟨[[I64 5, SS n, I64 i, a]], []⟩ (QP Post) := by
  refine p163_2 ⟨by simp, fun _ => ⟨⟨rfl, rfl⟩, ⟨fun _ => ?_, by simp⟩⟩⟩
  cases ts with
  | cons t l =>
    have b : ((l.length : Int) + 1 == 0) = false := by rfl
    simpa [-beq_iff_eq, -beq_eq_false_iff_ne, QP, QI, b] using hP
  | nil =>
    by_cases c1 : 0 ≤ i
    · by_cases c2 : i ≤ 200
      · simp_all[QP,validL]
      · simpa [QP, QI, c1, c2, validL] using hP
    · simpa [QP, QI, c1, validL] using hP
theorem wf2 (ha : RowsA a (rowsT ts)) (hl : sizeL ts < 2 ^ 38) (hn : okN n) (ih : ∀ t ∈ ts, PureC (env R) 163 [.agg ((rowT t).map .pv)] fun r => r = BB (valid t))
    (hP : Post (BB (isId n && !resv.contains n && decide (ts.length ≤ 6) && plainL ts && validL ts))) : P163_2 R 0 0 0 (.ptr 0 0) (I64 ts.length) (I64 2) (BB false) ⟨[[I64 2, SS n, I64 i, a]], []⟩ (QP Post) := by
  refine p163_2 ⟨by simp, fun _ => ⟨⟨rfl, rfl⟩, ⟨by simp, fun _ => ⟨⟨rfl, rfl⟩, ⟨fun _ => ?_, by simp⟩⟩⟩⟩⟩
  simp only [wNew, wBox, wBoxZ, markT, wCond, wBuild, fillS, wO, setCells, wSt, wLd, wPart, LFE, wFad, alive, wInt, wStr, wGK, wGd, wPick, wExt, wLen, wSlen, wNot, wNil, okI, ceI, okB, ceB, okS, ceS, okL, ceL, okC, ceC, okO, ceO, okP, ceP, okG, ceG, okE, ceE, okR, ceR, okF, ceF, okX, ceX, okM, ceM, okN, ceN, okNf, ceNf, okNi, ceNi, ceA, roL, roC, roO, leL, leC, leO, tpP, tpC, tpO, clP, clC, clO, clF, clA, clT, clN, clL, nbP, nbC, nbO, nbN, nbL, toPVs]
  simp only [List.getElem?_cons_zero, List.getElem?_cons_succ, List.length_cons, Nat.zero_add, if_true]
  refine ⟨trivial, wCall_pure (rident_spec hn) ?_⟩
  rintro v rfl
  cases c1 : isId n with
  | false =>
    simp_all[QP]
  | true =>
    simp
    refine wCall_pure keyword_spec ?_
    rintro v rfl
    cases c2 : resv.contains n with
    | true =>
      simp_all[QP]
    | false =>
      rw [c1, c2] at hP
      by_cases c3 : ts.length ≤ 6
      · have c3' : ¬ (6 < (ts.length : Int)) := by omega
        rw [decide_eq_true c3] at hP
        simp [c3']
        exact p163_3 (wfp_loop ha hl ih ts.length 0 (by omega) (by grind))
      · have c3' : (6 < (ts.length : Int)) := by omega
        simp_all[QP]
theorem wf3 (ha : RowsA a (rowsT ts)) (hl : sizeL ts < 2 ^ 38) (ih : ∀ t ∈ ts, PureC (env R) 163 [.agg ((rowT t).map .pv)] fun r => r = BB (valid t)) (hP : Post (BB (decide (ts.length ≤ 6) && validL ts))) :
    P163_2 R 0 0 0 (.ptr 0 0) (I64 ts.length) (I64 3) (BB false) ⟨[[I64 3, SS n, I64 i, a]], []⟩ (QP Post) := by
  refine p163_2 ⟨by simp, fun _ => ⟨⟨rfl, rfl⟩, ⟨by simp, fun _ => ⟨⟨rfl, rfl⟩, ⟨by simp, fun _ => ⟨⟨rfl, rfl⟩, ⟨fun _ => ?_, by simp⟩⟩⟩⟩⟩⟩⟩
  by_cases c : ts.length ≤ 6
  · have c' : ¬ (6 < (ts.length : Int)) := by omega
    rw [decide_eq_true c] at hP
    simp [c']
    grind[wf_args]
  · have c' : (6 < (ts.length : Int)) := by omega
    simp_all[QP]
theorem wf4 (ha : RowsA a (rowsT ts)) (hl : sizeL ts < 2 ^ 38) (ih : ∀ t ∈ ts, PureC (env R) 163 [.agg ((rowT t).map .pv)] fun r => r = BB (valid t)) (hP : Post (BB (decide (2 ≤ ts.length) && validL ts))) :
    P163_2 R 0 0 0 (.ptr 0 0) (I64 ts.length) (I64 4) (BB false) ⟨[[I64 4, SS n, I64 i, a]], []⟩ (QP Post) := by
  refine p163_2 ⟨by simp, fun _ => ⟨⟨rfl, rfl⟩, ⟨by simp, fun _ => ⟨⟨rfl, rfl⟩, ⟨by simp, fun _ => ⟨⟨rfl, rfl⟩, ⟨by simp, fun _ => ⟨⟨rfl, rfl⟩, ⟨fun _ => ?_, by simp⟩⟩⟩⟩⟩⟩⟩⟩⟩
  by_cases c : 2 ≤ ts.length
  · have c' : ¬ ((ts.length : Int) < 2) := by omega
    rw [decide_eq_true c] at hP
    simp [c']
    grind[wf_args]
  · have c' : ((ts.length : Int) < 2) := by omega
    simp_all[QP]
theorem wf6 (ha : RowsA a (rowsT ts)) (hl : sizeL ts < 2 ^ 38) (ih : ∀ t ∈ ts, PureC (env R) 163 [.agg ((rowT t).map .pv)] fun r => r = BB (valid t)) (hP : Post (BB (ts.length == 2 && first0 ts && validL ts))) :
    P163_2 R 0 0 0 (.ptr 0 0) (I64 ts.length) (I64 6) (BB false) ⟨[[I64 6, SS n, I64 i, a]], []⟩ (QP Post) := by
  refine p163_2 ⟨by simp, fun _ => ⟨⟨rfl, rfl⟩, ⟨by simp, fun _ => ⟨⟨rfl, rfl⟩, ⟨by simp, fun _ => ⟨⟨rfl, rfl⟩, ⟨by simp, fun _ => ⟨⟨rfl, rfl⟩, ⟨by simp, fun _ => ⟨⟨rfl, rfl⟩, ⟨fun _ => ?_, by simp⟩⟩⟩⟩⟩⟩⟩⟩⟩⟩⟩
  by_cases c : ts.length = 2
  · obtain ⟨t, l, rfl⟩ : ∃ t l, ts = t :: l := by
      cases ts with
      | nil => grind
      | cons t l => simp
    have hl' := hl
    simp only [sizeL] at hl'
    have e3 : PureC (env R) 164 [.agg ((rowT t).map .pv)] fun r => r = BB (clos 0 t) := termClosed_spec (by omega) (TRep.of_row t)
    have hP' : Post (BB (clos 0 t && validL (t :: l))) := by
      rw [show (t :: l).length == 2 by grind] at hP
      simpa [first0] using hP
    have b : (((t :: l).length : Int) != 2) = false := by
      rw [c]; rfl
    simp only [wNew, wBox, wBoxZ, markT, wCond, wBuild, fillS, wO, setCells, wSt, wLd, wPart, LFE, wFad, alive, wInt, wStr, wGK, wGd, wPick, wExt, wLen, wSlen, wNot, wNil, okI, ceI, okB, ceB, okS, ceS, okL, ceL, okC, ceC, okO, ceO, okP, ceP, okG, ceG, okE, ceE, okR, ceR, okF, ceF, okX, ceX, okM, ceM, okN, ceN, okNf, ceNf, okNi, ceNi, ceA, roL, roC, roO, leL, leC, leO, tpP, tpC, tpO, clP, clC, clO, clF, clA, clT, clN, clL, nbP, nbC, nbO, nbN, nbL, toPVs, b]
    refine ⟨⟨trivial, trivial⟩, ?_⟩
    simp
    refine wIdx_rows ha (row := rowT t) (by omega) (by simp [rowsT]) (rowT_len t) (by omega) ?_
    obtain ⟨k', n', x, es⟩ := t
    simp only [rowT, List.map_cons, List.map_nil] at e3
    simp [rowT]
    refine wCall_pure e3 ?_
    rintro v rfl
    cases hc : clos 0 (.mk k' n' x es) with
    | false =>
      rw [hc] at hP'
      simpa [QP, QI] using hP'
    | true =>
      rw [hc] at hP'
      simp
      have := wf_args (n := n) (k := 6) (i := i) ha hl ih (by simpa using hP')
      grind
  · have c' : ¬ ((ts.length : Int) = 2) := by omega
    have b : (ts.length == 2) = false := by grind
    rw [b] at hP
    have b' : ((ts.length : Int) != 2) = true := by grind
    simpa [-bne_iff_ne, QP, QI, b'] using hP
theorem wf7 (h5 : ¬ k = 5) (h2 : ¬ k = 2) (h3 : ¬ k = 3) (h4 : ¬ k = 4) (h6 : ¬ k = 6) (hP : Post (BB false)) : P163_2 R 0 0 0 (.ptr 0 0) (I64 ts.length) (I64 k) (BB false) ⟨[[I64 k, SS n, I64 i, a]], []⟩ (QP Post) := by
  refine p163_2 ⟨by simp, fun _ => ⟨⟨rfl, rfl⟩, ⟨by grind, fun _ => ⟨⟨rfl, rfl⟩, ⟨by grind, fun _ => ⟨⟨rfl, rfl⟩, ⟨by grind, fun _ => ⟨⟨rfl, rfl⟩, ⟨by grind, fun _ => ⟨⟨rfl, rfl⟩, ⟨by grind, fun _ => ?_⟩⟩⟩⟩⟩⟩⟩⟩⟩⟩⟩
  exact ⟨_, clP, hP⟩
theorem wf_points (ha : RowsA a (rowsT ts)) (hs : sizeL ts < 2 ^ 38) (hn : okN n) (ih : ∀ t ∈ ts, PureC (env R) 163 [.agg ((rowT t).map .pv)] fun r => r = BB (valid t)) (hP : Post (BB (shape k n i ts && validL ts))) :
    P163_1 R 0 0 0 (.ptr 0 0) (I64 ts.length) ⟨[[I64 k, SS n, I64 i, a]], []⟩ (QP Post) := by
  refine p163_1 ?_
  by_cases h0 : k = 0
  · simp_all[wf0,shape]
  by_cases h1 : k = 1
  · simp_all[wf0,shape]
  have b0 : (k == 0) = false := by grind
  have b1 : (k == 1) = false := by grind
  simp [h0]
  have e : (BB (k == 1) : AV) = BB false := by rw [b1]
  grind[wf2,shape,wf3,wf4,wf5,wf6,wf7]
end
end
end Go.Proofs.YtcmeadgdojfhnaaGreatDoor
