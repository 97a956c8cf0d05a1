/-
  Terms: validity.
-/
import Derived.Test.YtmipbilokjkjiaaGreatDoorTA
set_option linter.unusedSimpArgs false
set_option linter.unusedVariables false
namespace Go.Proofs.YtmipbilokjkjiaaGreatDoor
open Go.Tel
attribute [local simp] wNew wBox wBoxZ markT wCond wBuild fillS wO setCells wSt wLd wPart LFE wFad alive wInt wStr wGK wGd wPick wExt wLen wSlen wNot wNil okI ceI okB ceB okS ceS okL ceL okC ceC okO ceO okP ceP okG ceG okE ceE okR ceR okF ceF okX ceX okM ceM okN ceN okNf ceNf okNi ceNi ceA roL roC roO leL leC leO tpP tpC tpO clP clC clO clF clA clT clN clL nbP nbC nbO nbN nbL toPVs
def first0 : List Ty → Bool
  | [] => false
  | t :: _ => clos 0 t
/-- What the root of a term of kind k needs. -/
def shape (k : Int) (n : List UInt8) (i : Int) (ts : List Ty) : Bool :=
  bif k == 0 || k == 1 then ts.length == 0
  else bif k == 2 then isId n && !resv.contains n && decide (ts.length ≤ 6) && plainL ts
  else bif k == 3 then decide (ts.length ≤ 6)
  else bif k == 4 then decide (2 ≤ ts.length)
  else bif k == 5 then ts.length == 0 && decide (0 ≤ i) && decide (i ≤ 200)
  else bif k == 6 then ts.length == 2 && first0 ts
  else false
def root (k : Int) (n : List UInt8) (i : Int) (ts : List Ty) : Bool := (k == 2 || n == []) && (k == 5 || i == 0) && shape k n i ts
mutual
def valid : Ty → Bool
  | .mk k n i ts => root k n i ts && validL ts
def validL : List Ty → Bool
  | [] => true
  | t :: l => valid t && validL l
end
/-- Every name in it is short enough for an int. -/
def okN (n : List UInt8) : Prop := n.length < 2 ^ 60
mutual
def okT : Ty → Prop
  | .mk _ n _ ts => okN n ∧ okTs ts
def okTs : List Ty → Prop
  | [] => True
  | t :: l => okT t ∧ okTs l
end
section
variable {R : Nat → Option (List PV)}
theorem env_G6 : (env R).G 6 = some (strRow resv) := rfl
theorem resv_rows : strRow resv = [.list (strRows resv)] := rfl
section
variable {k i : Int} {n : List UInt8} {ts : List Ty} {a : AV} {Post : AV → Prop}
theorem sh0 (ha : RowsA a (rowsT ts)) (hP : Post (BB (ts.length == 0))) : P78_2 R 0 0 0 (.ptr 0 0) (I64 k) (BB true) ⟨[[I64 k, SS n, I64 i, a]], []⟩ (QP Post) := by
  refine p78_2 ⟨fun _ => ?_, by simp⟩
  have e : ((ts.length : Int) == 0) = (ts.length == 0) := by
    rw [Bool.eq_iff_iff, beq_iff_eq, beq_iff_eq]
    omega
  simpa [-beq_iff_eq, -beq_eq_false_iff_ne, QP, QI, ha.lenA, rowsT_len, e] using hP
theorem sh2 (ha : RowsA a (rowsT ts)) (hs : sizeL ts < 2 ^ 38) (hn : okN n) (hP : Post (BB (isId n && !resv.contains n && decide (ts.length ≤ 6) && plainL ts))) :
    P78_2 R 0 0 0 (.ptr 0 0) (I64 2) (BB false) ⟨[[I64 2, SS n, I64 i, a]], []⟩ (QP Post) := by
  have hlen := sizeL_len ts
  refine p78_2 ⟨by simp, fun _ => ⟨⟨rfl, rfl⟩, ⟨fun _ => ?_, by simp⟩⟩⟩
  simp only [wNew, wBox, wBoxZ, markT, wCond, wBuild, fillS, wO, setCells, wSt, wLd, wPart, LFE, wFad, alive, wInt, wStr, wGK, wGd, wPick, wExt, wLen, wSlen, wNot, wNil, okI, ceI, okB, ceB, okS, ceS, okL, ceL, okC, ceC, okO, ceO, okP, ceP, okG, ceG, okE, ceE, okR, ceR, okF, ceF, okX, ceX, okM, ceM, okN, ceN, okNf, ceNf, okNi, ceNi, ceA, roL, roC, roO, leL, leC, leO, tpP, tpC, tpO, clP, clC, clO, clF, clA, clT, clN, clL, nbP, nbC, nbO, nbN, nbL, toPVs]
  simp only [List.getElem?_cons_zero, List.getElem?_cons_succ, List.length_cons, Nat.zero_add, if_true]
  refine ⟨trivial, wCall_pure (isIdent_spec hn) ?_⟩
  rintro v rfl
  cases c1 : isId n with
  | false =>
    rw [c1] at hP
    simpa [QP, QI] using hP
  | true =>
    simp [env_G6, resv_rows]
    refine wCall_pure (containsS_spec (.list _) (by simp [resv])) ?_
    rintro v rfl
    cases c2 : resv.contains n with
    | true =>
      rw [c1, c2] at hP
      simpa [QP, QI] using hP
    | false =>
      rw [c1, c2] at hP
      by_cases c3 : ts.length ≤ 6
      · have c3' : ((ts.length : Int) ≤ 6) := by omega
        rw [decide_eq_true c3] at hP
        simp [ha.lenA, rowsT_len, c3']
        refine wCall_pure (plainArgs_spec 2 n i ts hs a ha) ?_
        rintro v rfl
        simpa [QP, QI] using hP
      · have c3' : ¬ ((ts.length : Int) ≤ 6) := by omega
        rw [decide_eq_false c3] at hP
        simpa [QP, QI, ha.lenA, rowsT_len, c3'] using hP
theorem sh3 (ha : RowsA a (rowsT ts)) (hP : Post (BB (decide (ts.length ≤ 6)))) : P78_2 R 0 0 0 (.ptr 0 0) (I64 3) (BB false) ⟨[[I64 3, SS n, I64 i, a]], []⟩ (QP Post) := by
  refine p78_2 ⟨by simp, fun _ => ⟨⟨rfl, rfl⟩, ⟨by simp, fun _ => ⟨⟨rfl, rfl⟩, ⟨fun _ => ?_, by simp⟩⟩⟩⟩⟩
  have e : decide ((ts.length : Int) ≤ 6) = decide (ts.length ≤ 6) := by
    rw [Bool.eq_iff_iff, decide_eq_true_iff, decide_eq_true_iff]
    omega
  simpa [-decide_eq_true_eq, QP, QI, ha.lenA, rowsT_len, e] using hP
theorem sh4 (ha : RowsA a (rowsT ts)) (hP : Post (BB (decide (2 ≤ ts.length)))) : P78_2 R 0 0 0 (.ptr 0 0) (I64 4) (BB false) ⟨[[I64 4, SS n, I64 i, a]], []⟩ (QP Post) := by
  refine p78_2 ⟨by simp, fun _ => ⟨⟨rfl, rfl⟩, ⟨by simp, fun _ => ⟨⟨rfl, rfl⟩, ⟨by simp, fun _ => ⟨⟨rfl, rfl⟩, ⟨fun _ => ?_, by simp⟩⟩⟩⟩⟩⟩⟩
  have e : decide (2 ≤ (ts.length : Int)) = decide (2 ≤ ts.length) := by
    rw [Bool.eq_iff_iff, decide_eq_true_iff, decide_eq_true_iff]
    omega
  simpa [-decide_eq_true_eq, QP, QI, ha.lenA, rowsT_len, e] using hP
theorem sh5 (ha : RowsA a (rowsT ts)) (hP : Post (BB (ts.length == 0 && decide (0 ≤ i) && decide (i ≤ 200)))) : P78_2 R 0 0 0 (.ptr 0 0) (I64 5) (BB false) ⟨[[I64 5, SS n, I64 i, a]], []⟩ (QP Post) := by
  refine p78_2 ⟨by simp, fun _ => ⟨⟨rfl, rfl⟩, ⟨by simp, fun _ => ⟨⟨rfl, rfl⟩, ⟨by simp, fun _ => ⟨⟨rfl, rfl⟩, ⟨by simp, fun _ => ⟨⟨rfl, rfl⟩, ⟨fun _ => ?_, by simp⟩⟩⟩⟩⟩⟩⟩⟩⟩
  cases ts with
  | cons t l =>
    have c' : ¬ ((l.length : Int) + 1 = 0) := by omega
    have b' : ((l.length : Int) + 1 == 0) = false := by simpa using c'
    simpa [-beq_iff_eq, -beq_eq_false_iff_ne, QP, QI, ha.lenA, rowsT_len, b'] using hP
  | nil =>
    by_cases c1 : 0 ≤ i
    · by_cases c2 : i ≤ 200
      · simpa [QP, QI, ha.lenA, rowsT_len, c1, c2] using hP
      · simpa [QP, QI, ha.lenA, rowsT_len, c1, c2] using hP
    · simpa [QP, QI, ha.lenA, rowsT_len, c1] using hP
theorem sh6 (ha : RowsA a (rowsT ts)) (hs : sizeL ts < 2 ^ 38) (hP : Post (BB (ts.length == 2 && first0 ts))) : P78_2 R 0 0 0 (.ptr 0 0) (I64 6) (BB false) ⟨[[I64 6, SS n, I64 i, a]], []⟩ (QP Post) := by
  refine p78_2 ⟨by simp, fun _ => ⟨⟨rfl, rfl⟩, ⟨by simp, fun _ => ⟨⟨rfl, rfl⟩, ⟨by simp, fun _ => ⟨⟨rfl, rfl⟩, ⟨by simp, fun _ => ⟨⟨rfl, rfl⟩, ⟨by simp, fun _ => ⟨⟨rfl, rfl⟩, ⟨fun _ => ?_, by simp⟩⟩⟩⟩⟩⟩⟩⟩⟩⟩⟩
  by_cases c : ts.length = 2
  · have c' : ((ts.length : Int) = 2) := by omega
    obtain ⟨t, l, rfl⟩ : ∃ t l, ts = t :: l := by
      cases ts with
      | nil => simp at c
      | cons t l => exact ⟨t, l, rfl⟩
    simp only [sizeL] at hs
    have e3 : PureC (env R) 102 [.agg ((rowT t).map .pv), I64 0] fun r => r = BB (clos 0 t) := closed_spec t (by omega) 0 (by omega) _ (TRep.of_row t)
    have hP' : Post (BB (clos 0 t)) := by
      have : l.length = 1 := by simpa using c
      simpa [this, first0] using hP
    have c'' : ((l.length : Int) + 1 = 2) := by simpa using c'
    simp [ha.lenA, rowsT_len, c'']
    refine wIdx_rows ha (row := rowT t) (by omega) (by simp [rowsT]) (rowT_len t) (by omega) ?_
    obtain ⟨k', n', x, es⟩ := t
    simp only [rowT, List.map_cons, List.map_nil] at e3
    simp [rowT]
    refine wCall_pure e3 ?_
    rintro v rfl
    simpa [QP, QI] using hP'
  · have c' : ¬ ((ts.length : Int) = 2) := by omega
    have b : (ts.length == 2) = false := by simpa using c
    rw [b] at hP
    have b' : ((ts.length : Int) == 2) = false := by simpa using c'
    simpa [-beq_iff_eq, -beq_eq_false_iff_ne, QP, QI, ha.lenA, rowsT_len, b'] using hP
theorem sh7 (h2 : ¬ k = 2) (h3 : ¬ k = 3) (h4 : ¬ k = 4) (h5 : ¬ k = 5) (h6 : ¬ k = 6) (hP : Post (BB false)) : P78_2 R 0 0 0 (.ptr 0 0) (I64 k) (BB false) ⟨[[I64 k, SS n, I64 i, a]], []⟩ (QP Post) := by
  refine p78_2 ⟨by simp, fun _ => ⟨⟨rfl, rfl⟩, ⟨by simp [h2], fun _ => ⟨⟨rfl, rfl⟩, ⟨by simp [h3], fun _ => ⟨⟨rfl, rfl⟩, ⟨by simp [h4], fun _ => ⟨⟨rfl, rfl⟩, ⟨by simp [h5], fun _ => ⟨⟨rfl, rfl⟩, ⟨by simp [h6], fun _ => p78_3 ?_⟩⟩⟩⟩⟩⟩⟩⟩⟩⟩⟩
  exact ⟨_, clP, hP⟩
theorem shape_points (ha : RowsA a (rowsT ts)) (hs : sizeL ts < 2 ^ 38) (hn : okN n) (hP : Post (BB (shape k n i ts))) : P78_1 R 0 0 0 (.ptr 0 0) ⟨[[I64 k, SS n, I64 i, a]], []⟩ (QP Post) := by
  refine p78_1 ?_
  by_cases h0 : k = 0
  · subst h0
    simp
    exact sh0 ha (by simpa [shape] using hP)
  by_cases h1 : k = 1
  · subst h1
    simp
    exact sh0 ha (by simpa [shape] using hP)
  have b0 : (k == 0) = false := by simpa using h0
  have b1 : (k == 1) = false := by simpa using h1
  simp [h0]
  have e : (BB (k == 1) : AV) = BB false := by rw [b1]
  rw [e]
  by_cases h2 : k = 2
  · subst h2
    exact sh2 ha hs hn (by simpa [shape] using hP)
  by_cases h3 : k = 3
  · subst h3
    exact sh3 ha (by simpa [shape] using hP)
  by_cases h4 : k = 4
  · subst h4
    exact sh4 ha (by simpa [shape] using hP)
  by_cases h5 : k = 5
  · subst h5
    exact sh5 ha (by simpa [shape] using hP)
  by_cases h6 : k = 6
  · subst h6
    exact sh6 ha hs (by simpa [shape] using hP)
  have b2 : (k == 2) = false := by simpa using h2
  have b3 : (k == 3) = false := by simpa using h3
  have b4 : (k == 4) = false := by simpa using h4
  have b5 : (k == 5) = false := by simpa using h5
  have b6 : (k == 6) = false := by simpa using h6
  rw [show shape k n i ts = false by simp only [shape, b0, b1, b2, b3, b4, b5, b6]; rfl] at hP
  exact sh7 h2 h3 h4 h5 h6 hP
end
theorem validNode_spec {k i : Int} {n : List UInt8} {ts : List Ty} {a : AV} (ha : RowsA a (rowsT ts)) (hs : sizeL ts < 2 ^ 38) (hn : okN n) : PureC (env R) 78 [.agg [I64 k, SS n, I64 i, a]] fun r => r = BB (root k n i ts) := by
  suffices H : ∀ Post : AV → Prop, Post (BB (root k n i ts)) → P78_0 R 0 0 0 (.agg [I64 k, SS n, I64 i, a]) ⟨[], []⟩ (QP Post) from
    e78 (u0 := .agg [I64 k, SS n, I64 i, a]) (by simp [ha.close]) (H _ rfl)
  intro Post hP
  refine p78_0 ?_
  unfold root at hP
  cases b2 : (k == 2) with
  | true =>
    have e2 : k = 2 := by simpa using b2
    subst e2
    by_cases hi : i = 0
    · subst hi
      simp [ha.ok]
      exact shape_points ha hs hn (by simpa using hP)
    · have bi : (i == 0) = false := by simpa using hi
      rw [bi] at hP
      simpa [QP, QI, ha.ok, hi, bne, bi] using hP
  | false =>
    have e2 : ¬ k = 2 := by simpa using b2
    rw [b2] at hP
    by_cases hn0 : n = []
    · subst hn0
      cases b5 : (k == 5) with
      | true =>
        have e5 : k = 5 := by simpa using b5
        subst e5
        simp [ha.ok]
        exact shape_points ha hs hn (by simpa using hP)
      | false =>
        have e5 : ¬ k = 5 := by simpa using b5
        rw [b5] at hP
        by_cases hi : i = 0
        · subst hi
          simp [ha.ok, e2, e5, bne, b2, b5]
          exact shape_points ha hs hn (by simpa using hP)
        · have bi : (i == 0) = false := by simpa using hi
          rw [bi] at hP
          simpa [QP, QI, ha.ok, e2, e5, hi, bne, b2, b5, bi] using hP
    · have bn : (n == []) = false := by simpa using hn0
      rw [bn] at hP
      simpa [QP, QI, ha.ok, e2, hn0, bne, b2, bn] using hP
end
end Go.Proofs.YtmipbilokjkjiaaGreatDoor
/-
  Terms: validity, both versions.
-/
namespace Go.Proofs.YtmipbilokjkjiaaGreatDoor
open Go.Tel
attribute [local simp] wNew wBox wBoxZ markT wCond wBuild fillS wO setCells wSt wLd wPart LFE wFad alive wInt wStr wGK wGd wPick wExt wLen wSlen wNot wNil okI ceI okB ceB okS ceS okL ceL okC ceC okO ceO okP ceP okG ceG okE ceE okR ceR okF ceF okX ceX okM ceM okN ceN okNf ceNf okNi ceNi ceA roL roC roO leL leC leO tpP tpC tpO clP clC clO clF clA clT clN clL nbP nbC nbO nbN nbL toPVs
/-- What Validate answers. -/
def verdict (t : Ty) : Int := bif decide (200 < size t) || decide (12 < depth t) then 4 else bif valid t then 0 else 2
section
variable {R : Nat → Option (List PV)}
mutual
theorem validNodes_spec : ∀ (t : Ty), size t < 2 ^ 38 → okT t → ∀ (x : AV), TRep t x → PureC (env R) 54 [x] fun r => r = BB (valid t)
  | .mk k n i ts, h, ho, x, hx => by
    obtain ⟨a, rfl, ha⟩ := hx
    simp only [size] at h
    simp only [okT] at ho
    have ih := validNodesL_spec ts (by omega) ho.2
    refine e54 (u0 := .agg [I64 k, SS n, I64 i, a]) (by simp [ha.close]) (p54_0 ?_)
    simp [ha.ok]
    refine wCall_pure (validNode_spec ha (by omega) ho.1) ?_
    rintro v rfl
    cases hr : root k n i ts with
    | false => simp [QP, QI, valid, hr]
    | true =>
      have hf : ∀ t ∈ ts, PureC (env R) 80 [.agg ((rowT t).map .pv)] fun r => r = BB (!valid t) := by
        intro t ht
        have e := ih t ht
        refine e80 (by cases t; simp [rowT, noIdL, noId]) (p80_0 ?_)
        obtain ⟨k', n', x, es⟩ := t
        simp only [rowT, List.map_cons, List.map_nil] at e
        simp [rowT]
        refine wCall_pure e ?_
        rintro v rfl
        simp [QP, QI]
      simp
      refine wCall_pure (contains_spec ha (by omega) hf) ?_
      rintro v rfl
      have : (!ts.any fun t => !valid t) = validL ts := by
        clear ih hf ha h hr ho
        induction ts with
        | nil => rfl
        | cons t l ih => simp [validL, ← ih]
      simp [QP, QI, valid, hr, ← this]
theorem validNodesL_spec : ∀ (l : List Ty), sizeL l < 2 ^ 38 → okTs l → ∀ t ∈ l, PureC (env R) 54 [.agg ((rowT t).map .pv)] fun r => r = BB (valid t)
  | [], _, _, _, h => by cases h
  | e :: l, ho, hk, a, h => by
    simp only [sizeL] at ho
    simp only [okTs] at hk
    rcases List.mem_cons.1 h with h' | h'
    · rw [h']
      exact validNodes_spec e (by omega) hk.1 _ (TRep.of_row e)
    · exact validNodesL_spec l (by omega) hk.2 a h'
end
section
variable {k i : Int} {n : List UInt8} {ts : List Ty} {a : AV} {Post : AV → Prop}
theorem wf_loop (ha : RowsA a (rowsT ts)) (hl : sizeL ts < 2 ^ 38) (ih : ∀ t ∈ ts, PureC (env R) 42 [.agg ((rowT t).map .pv)] fun r => r = BB (valid t)) :
    ∀ (j q : Nat), q + j = ts.length → Post (BB (validL (ts.drop q))) → P42_6 R 0 0 0 (.ptr 0 0) (I64 ts.length) (I64 q) ⟨[[I64 k, SS n, I64 i, a]], []⟩ (QP Post) := by
  have h60 := sizeL_len ts
  intro j
  induction j with
  | zero =>
    intro q hi hP
    refine p42_6 ?_
    have h1 : ¬ ((q : Int) < ts.length) := by omega
    simp [h1]
    refine p42_9 ?_
    have h2 : ts.drop q = [] := List.drop_of_length_le (by omega)
    rw [h2] at hP
    simpa [QP, QI, validL] using hP
  | succ j ihj =>
    intro q hi hP
    refine p42_6 ?_
    have h1 : ((q : Int) < ts.length) := by omega
    obtain ⟨t, ht⟩ : ∃ t, ts[q]? = some t := ⟨_, List.getElem?_eq_getElem (by omega)⟩
    have hd := drop_cons ht
    rw [hd] at hP
    simp only [validL] at hP
    simp [h1]
    refine p42_8 ?_
    simp
    refine wIdx_rows ha (row := rowT t) (by omega) (by simpa using rowsT_get ht) (rowT_len t) (by omega) ?_
    have e3 := ih t (List.mem_of_getElem? ht)
    cases hg : valid t with
    | true =>
      rw [hg] at e3 hP
      obtain ⟨k', n', x, es⟩ := t
      simp only [rowT, List.map_cons, List.map_nil] at e3
      simp [rowT]
      refine wCall_pure e3 ?_
      rintro v rfl
      simp
      refine p42_11 ?_
      simp only [wInt]
      refine ⟨⟨trivial, trivial⟩, wAri_fit (by omega) (by omega) ?_⟩
      have := ihj (q + 1) (by omega) (by simpa using hP)
      simpa using this
    | false =>
      rw [hg] at e3 hP
      obtain ⟨k', n', x, es⟩ := t
      simp only [rowT, List.map_cons, List.map_nil] at e3
      simp [rowT]
      refine wCall_pure e3 ?_
      rintro v rfl
      simpa [QP, QI] using hP
theorem wf_args (ha : RowsA a (rowsT ts)) (hl : sizeL ts < 2 ^ 38) (ih : ∀ t ∈ ts, PureC (env R) 42 [.agg ((rowT t).map .pv)] fun r => r = BB (valid t)) (hP : Post (BB (validL ts))) :
    P42_4 R 0 0 0 (.ptr 0 0) (I64 ts.length) ⟨[[I64 k, SS n, I64 i, a]], []⟩ (QP Post) :=
  p42_4 (wf_loop ha hl ih ts.length 0 (by omega) (by simpa using hP))
theorem wfp_loop (ha : RowsA a (rowsT ts)) (hl : sizeL ts < 2 ^ 38) (ih : ∀ t ∈ ts, PureC (env R) 42 [.agg ((rowT t).map .pv)] fun r => r = BB (valid t)) :
    ∀ (j q : Nat), q + j = ts.length → Post (BB (plainL (ts.drop q) && validL ts)) → P42_5 R 0 0 0 (.ptr 0 0) (I64 ts.length) (I64 q) ⟨[[I64 k, SS n, I64 i, a]], []⟩ (QP Post) := by
  have h60 := sizeL_len ts
  intro j
  induction j with
  | zero =>
    intro q hi hP
    refine p42_5 ?_
    have h1 : ¬ ((q : Int) < ts.length) := by omega
    simp [h1]
    have h2 : ts.drop q = [] := List.drop_of_length_le (by omega)
    rw [h2] at hP
    exact wf_args ha hl ih (by simpa [plainL] using hP)
  | succ j ihj =>
    intro q hi hP
    refine p42_5 ?_
    have h1 : ((q : Int) < ts.length) := by omega
    obtain ⟨t, ht⟩ : ∃ t, ts[q]? = some t := ⟨_, List.getElem?_eq_getElem (by omega)⟩
    have hd := drop_cons ht
    rw [hd] at hP
    simp only [plainL] at hP
    simp [h1]
    refine p42_7 ?_
    simp
    refine wIdx_rows ha (row := rowT t) (by omega) (by simpa using rowsT_get ht) (rowT_len t) (by omega) ?_
    have e3 := rplains_spec (R := R) ts hl t (List.mem_of_getElem? ht)
    cases hg : plain t with
    | true =>
      rw [hg] at e3 hP
      obtain ⟨k', n', x, es⟩ := t
      simp only [rowT, List.map_cons, List.map_nil] at e3
      simp [rowT]
      refine wCall_pure e3 ?_
      rintro v rfl
      simp
      refine p42_10 ?_
      simp only [wInt]
      refine ⟨⟨trivial, trivial⟩, wAri_fit (by omega) (by omega) ?_⟩
      have := ihj (q + 1) (by omega) (by simpa using hP)
      simpa using this
    | false =>
      rw [hg] at e3 hP
      obtain ⟨k', n', x, es⟩ := t
      simp only [rowT, List.map_cons, List.map_nil] at e3
      simp [rowT]
      refine wCall_pure e3 ?_
      rintro v rfl
      simpa [QP, QI] using hP
theorem wf0 (hP : Post (BB (ts.length == 0 && validL ts))) : P42_2 R 0 0 0 (.ptr 0 0) (I64 ts.length) (I64 k) (BB true) ⟨[[I64 k, SS n, I64 i, a]], []⟩ (QP Post) := by
  refine p42_2 ⟨fun _ => ?_, by simp⟩
  cases ts with
  | nil => simpa [QP, QI, validL] using hP
  | cons t l =>
    have b : ((l.length : Int) + 1 == 0) = false := by
      have : ¬ ((l.length : Int) + 1 = 0) := by omega
      simpa using this
    simpa [-beq_iff_eq, -beq_eq_false_iff_ne, QP, QI, b] using hP
theorem wf5 (hP : Post (BB (ts.length == 0 && decide (0 ≤ i) && decide (i ≤ 200) && validL ts))) : P42_2 R 0 0 0 (.ptr 0 0) (I64 ts.length) (I64 5) (BB false) ⟨[[I64 5, SS n, I64 i, a]], []⟩ (QP Post) := by
  refine p42_2 ⟨by simp, fun _ => ⟨⟨rfl, rfl⟩, ⟨fun _ => ?_, by simp⟩⟩⟩
  cases ts with
  | cons t l =>
    have b : ((l.length : Int) + 1 == 0) = false := by
      have : ¬ ((l.length : Int) + 1 = 0) := by omega
      simpa using this
    simpa [-beq_iff_eq, -beq_eq_false_iff_ne, QP, QI, b] using hP
  | nil =>
    by_cases c1 : 0 ≤ i
    · by_cases c2 : i ≤ 200
      · simpa [QP, QI, c1, c2, validL] using hP
      · simpa [QP, QI, c1, c2, validL] using hP
    · simpa [QP, QI, c1, validL] using hP
theorem wf2 (ha : RowsA a (rowsT ts)) (hl : sizeL ts < 2 ^ 38) (hn : okN n) (ih : ∀ t ∈ ts, PureC (env R) 42 [.agg ((rowT t).map .pv)] fun r => r = BB (valid t))
    (hP : Post (BB (isId n && !resv.contains n && decide (ts.length ≤ 6) && plainL ts && validL ts))) : P42_2 R 0 0 0 (.ptr 0 0) (I64 ts.length) (I64 2) (BB false) ⟨[[I64 2, SS n, I64 i, a]], []⟩ (QP Post) := by
  refine p42_2 ⟨by simp, fun _ => ⟨⟨rfl, rfl⟩, ⟨by simp, fun _ => ⟨⟨rfl, rfl⟩, ⟨fun _ => ?_, by simp⟩⟩⟩⟩⟩
  simp only [wNew, wBox, wBoxZ, markT, wCond, wBuild, fillS, wO, setCells, wSt, wLd, wPart, LFE, wFad, alive, wInt, wStr, wGK, wGd, wPick, wExt, wLen, wSlen, wNot, wNil, okI, ceI, okB, ceB, okS, ceS, okL, ceL, okC, ceC, okO, ceO, okP, ceP, okG, ceG, okE, ceE, okR, ceR, okF, ceF, okX, ceX, okM, ceM, okN, ceN, okNf, ceNf, okNi, ceNi, ceA, roL, roC, roO, leL, leC, leO, tpP, tpC, tpO, clP, clC, clO, clF, clA, clT, clN, clL, nbP, nbC, nbO, nbN, nbL, toPVs]
  simp only [List.getElem?_cons_zero, List.getElem?_cons_succ, List.length_cons, Nat.zero_add, if_true]
  refine ⟨trivial, wCall_pure (rident_spec hn) ?_⟩
  rintro v rfl
  cases c1 : isId n with
  | false =>
    rw [c1] at hP
    simpa [QP, QI] using hP
  | true =>
    simp
    refine wCall_pure keyword_spec ?_
    rintro v rfl
    cases c2 : resv.contains n with
    | true =>
      rw [c1, c2] at hP
      simpa [QP, QI] using hP
    | false =>
      rw [c1, c2] at hP
      by_cases c3 : ts.length ≤ 6
      · have c3' : ¬ (6 < (ts.length : Int)) := by omega
        rw [decide_eq_true c3] at hP
        simp [c3']
        exact p42_3 (wfp_loop ha hl ih ts.length 0 (by omega) (by simpa using hP))
      · have c3' : (6 < (ts.length : Int)) := by omega
        rw [decide_eq_false c3] at hP
        simpa [QP, QI, c3'] using hP
theorem wf3 (ha : RowsA a (rowsT ts)) (hl : sizeL ts < 2 ^ 38) (ih : ∀ t ∈ ts, PureC (env R) 42 [.agg ((rowT t).map .pv)] fun r => r = BB (valid t)) (hP : Post (BB (decide (ts.length ≤ 6) && validL ts))) :
    P42_2 R 0 0 0 (.ptr 0 0) (I64 ts.length) (I64 3) (BB false) ⟨[[I64 3, SS n, I64 i, a]], []⟩ (QP Post) := by
  refine p42_2 ⟨by simp, fun _ => ⟨⟨rfl, rfl⟩, ⟨by simp, fun _ => ⟨⟨rfl, rfl⟩, ⟨by simp, fun _ => ⟨⟨rfl, rfl⟩, ⟨fun _ => ?_, by simp⟩⟩⟩⟩⟩⟩⟩
  by_cases c : ts.length ≤ 6
  · have c' : ¬ (6 < (ts.length : Int)) := by omega
    rw [decide_eq_true c] at hP
    simp [c']
    exact wf_args ha hl ih (by simpa using hP)
  · have c' : (6 < (ts.length : Int)) := by omega
    rw [decide_eq_false c] at hP
    simpa [QP, QI, c'] using hP
theorem wf4 (ha : RowsA a (rowsT ts)) (hl : sizeL ts < 2 ^ 38) (ih : ∀ t ∈ ts, PureC (env R) 42 [.agg ((rowT t).map .pv)] fun r => r = BB (valid t)) (hP : Post (BB (decide (2 ≤ ts.length) && validL ts))) :
    P42_2 R 0 0 0 (.ptr 0 0) (I64 ts.length) (I64 4) (BB false) ⟨[[I64 4, SS n, I64 i, a]], []⟩ (QP Post) := by
  refine p42_2 ⟨by simp, fun _ => ⟨⟨rfl, rfl⟩, ⟨by simp, fun _ => ⟨⟨rfl, rfl⟩, ⟨by simp, fun _ => ⟨⟨rfl, rfl⟩, ⟨by simp, fun _ => ⟨⟨rfl, rfl⟩, ⟨fun _ => ?_, by simp⟩⟩⟩⟩⟩⟩⟩⟩⟩
  by_cases c : 2 ≤ ts.length
  · have c' : ¬ ((ts.length : Int) < 2) := by omega
    rw [decide_eq_true c] at hP
    simp [c']
    exact wf_args ha hl ih (by simpa using hP)
  · have c' : ((ts.length : Int) < 2) := by omega
    rw [decide_eq_false c] at hP
    simpa [QP, QI, c'] using hP
theorem wf6 (ha : RowsA a (rowsT ts)) (hl : sizeL ts < 2 ^ 38) (ih : ∀ t ∈ ts, PureC (env R) 42 [.agg ((rowT t).map .pv)] fun r => r = BB (valid t)) (hP : Post (BB (ts.length == 2 && first0 ts && validL ts))) :
    P42_2 R 0 0 0 (.ptr 0 0) (I64 ts.length) (I64 6) (BB false) ⟨[[I64 6, SS n, I64 i, a]], []⟩ (QP Post) := by
  refine p42_2 ⟨by simp, fun _ => ⟨⟨rfl, rfl⟩, ⟨by simp, fun _ => ⟨⟨rfl, rfl⟩, ⟨by simp, fun _ => ⟨⟨rfl, rfl⟩, ⟨by simp, fun _ => ⟨⟨rfl, rfl⟩, ⟨by simp, fun _ => ⟨⟨rfl, rfl⟩, ⟨fun _ => ?_, by simp⟩⟩⟩⟩⟩⟩⟩⟩⟩⟩⟩
  by_cases c : ts.length = 2
  · obtain ⟨t, l, rfl⟩ : ∃ t l, ts = t :: l := by
      cases ts with
      | nil => simp at c
      | cons t l => exact ⟨t, l, rfl⟩
    have hl' := hl
    simp only [sizeL] at hl'
    have e3 : PureC (env R) 70 [.agg ((rowT t).map .pv)] fun r => r = BB (clos 0 t) := termClosed_spec (by omega) (TRep.of_row t)
    have hP' : Post (BB (clos 0 t && validL (t :: l))) := by
      rw [show (t :: l).length == 2 by simpa using c] at hP
      simpa [first0] using hP
    have b : (((t :: l).length : Int) != 2) = false := by
      rw [c]; rfl
    simp only [wNew, wBox, wBoxZ, markT, wCond, wBuild, fillS, wO, setCells, wSt, wLd, wPart, LFE, wFad, alive, wInt, wStr, wGK, wGd, wPick, wExt, wLen, wSlen, wNot, wNil, okI, ceI, okB, ceB, okS, ceS, okL, ceL, okC, ceC, okO, ceO, okP, ceP, okG, ceG, okE, ceE, okR, ceR, okF, ceF, okX, ceX, okM, ceM, okN, ceN, okNf, ceNf, okNi, ceNi, ceA, roL, roC, roO, leL, leC, leO, tpP, tpC, tpO, clP, clC, clO, clF, clA, clT, clN, clL, nbP, nbC, nbO, nbN, nbL, toPVs, b]
    refine ⟨⟨trivial, trivial⟩, ?_⟩
    simp
    refine wIdx_rows ha (row := rowT t) (by omega) (by simp [rowsT]) (rowT_len t) (by omega) ?_
    obtain ⟨k', n', x, es⟩ := t
    simp only [rowT, List.map_cons, List.map_nil] at e3
    simp [rowT]
    refine wCall_pure e3 ?_
    rintro v rfl
    cases hc : clos 0 (.mk k' n' x es) with
    | false =>
      rw [hc] at hP'
      simpa [QP, QI] using hP'
    | true =>
      rw [hc] at hP'
      simp
      have := wf_args (n := n) (k := 6) (i := i) ha hl ih (by simpa using hP')
      simpa using this
  · have c' : ¬ ((ts.length : Int) = 2) := by omega
    have b : (ts.length == 2) = false := by simpa using c
    rw [b] at hP
    have b' : ((ts.length : Int) != 2) = true := by simpa using c'
    simpa [-bne_iff_ne, QP, QI, b'] using hP
theorem wf7 (h5 : ¬ k = 5) (h2 : ¬ k = 2) (h3 : ¬ k = 3) (h4 : ¬ k = 4) (h6 : ¬ k = 6) (hP : Post (BB false)) : P42_2 R 0 0 0 (.ptr 0 0) (I64 ts.length) (I64 k) (BB false) ⟨[[I64 k, SS n, I64 i, a]], []⟩ (QP Post) := by
  refine p42_2 ⟨by simp, fun _ => ⟨⟨rfl, rfl⟩, ⟨by simp [h5], fun _ => ⟨⟨rfl, rfl⟩, ⟨by simp [h2], fun _ => ⟨⟨rfl, rfl⟩, ⟨by simp [h3], fun _ => ⟨⟨rfl, rfl⟩, ⟨by simp [h4], fun _ => ⟨⟨rfl, rfl⟩, ⟨by simp [h6], fun _ => ?_⟩⟩⟩⟩⟩⟩⟩⟩⟩⟩⟩
  exact ⟨_, clP, hP⟩
theorem wf_points (ha : RowsA a (rowsT ts)) (hs : sizeL ts < 2 ^ 38) (hn : okN n) (ih : ∀ t ∈ ts, PureC (env R) 42 [.agg ((rowT t).map .pv)] fun r => r = BB (valid t)) (hP : Post (BB (shape k n i ts && validL ts))) :
    P42_1 R 0 0 0 (.ptr 0 0) (I64 ts.length) ⟨[[I64 k, SS n, I64 i, a]], []⟩ (QP Post) := by
  refine p42_1 ?_
  by_cases h0 : k = 0
  · subst h0
    simp
    exact wf0 (by simpa [shape] using hP)
  by_cases h1 : k = 1
  · subst h1
    simp
    exact wf0 (by simpa [shape] using hP)
  have b0 : (k == 0) = false := by simpa using h0
  have b1 : (k == 1) = false := by simpa using h1
  simp [h0]
  have e : (BB (k == 1) : AV) = BB false := by rw [b1]
  rw [e]
  by_cases h2 : k = 2
  · subst h2
    exact wf2 ha hs hn ih (by simpa [shape] using hP)
  by_cases h3 : k = 3
  · subst h3
    exact wf3 ha hs ih (by simpa [shape] using hP)
  by_cases h4 : k = 4
  · subst h4
    exact wf4 ha hs ih (by simpa [shape] using hP)
  by_cases h5 : k = 5
  · subst h5
    exact wf5 (by simpa [shape] using hP)
  by_cases h6 : k = 6
  · subst h6
    exact wf6 ha hs ih (by simpa [shape] using hP)
  have b2 : (k == 2) = false := by simpa using h2
  have b3 : (k == 3) = false := by simpa using h3
  have b4 : (k == 4) = false := by simpa using h4
  have b5 : (k == 5) = false := by simpa using h5
  have b6 : (k == 6) = false := by simpa using h6
  rw [show shape k n i ts = false by simp only [shape, b0, b1, b2, b3, b4, b5, b6]; rfl] at hP
  exact wf7 h5 h2 h3 h4 h6 hP
end
end
end Go.Proofs.YtmipbilokjkjiaaGreatDoor
/-
  Terms: Validate, both versions.
-/
namespace Go.Proofs.YtmipbilokjkjiaaGreatDoor
open Go.Tel
attribute [local simp] wNew wBox wBoxZ markT wCond wBuild fillS wO setCells wSt wLd wPart LFE wFad alive wInt wStr wGK wGd wPick wExt wLen wSlen wNot wNil okI ceI okB ceB okS ceS okL ceL okC ceC okO ceO okP ceP okG ceG okE ceE okR ceR okF ceF okX ceX okM ceM okN ceN okNf ceNf okNi ceNi ceA roL roC roO leL leC leO tpP tpC tpO clP clC clO clF clA clT clN clL nbP nbC nbO nbN nbL toPVs
section
variable {R : Nat → Option (List PV)}
mutual
theorem wf_spec : ∀ (t : Ty), size t < 2 ^ 38 → okT t → ∀ (x : AV), TRep t x → PureC (env R) 42 [x] fun r => r = BB (valid t)
  | .mk k n i ts, h, ho, x, hx => by
    obtain ⟨a, rfl, ha⟩ := hx
    simp only [size] at h
    simp only [okT] at ho
    have hs : sizeL ts < 2 ^ 38 := by omega
    have hn := ho.1
    have ih := wfs_spec ts hs ho.2
    suffices H : ∀ Post : AV → Prop, Post (BB (valid (.mk k n i ts))) → P42_0 R 0 0 0 (.agg [I64 k, SS n, I64 i, a]) ⟨[], []⟩ (QP Post) from
      e42 (u0 := .agg [I64 k, SS n, I64 i, a]) (by simp [ha.close]) (H _ rfl)
    intro Post hP
    refine p42_0 ?_
    simp only [valid] at hP
    unfold root at hP
    cases b2 : (k == 2) with
    | true =>
      have e2 : k = 2 := by simpa using b2
      subst e2
      by_cases hi : i = 0
      · subst hi
        simp [ha.ok, ha.lenA, rowsT_len]
        exact wf_points ha hs hn ih (by simpa using hP)
      · have bi : (i == 0) = false := by simpa using hi
        rw [bi] at hP
        simpa [QP, QI, ha.ok, ha.lenA, rowsT_len, hi, bne, bi] using hP
    | false =>
      have e2 : ¬ k = 2 := by simpa using b2
      rw [b2] at hP
      by_cases hn0 : n = []
      · subst hn0
        cases b5 : (k == 5) with
        | true =>
          have e5 : k = 5 := by simpa using b5
          subst e5
          simp [ha.ok, ha.lenA, rowsT_len]
          exact wf_points ha hs hn ih (by simpa using hP)
        | false =>
          have e5 : ¬ k = 5 := by simpa using b5
          rw [b5] at hP
          by_cases hi : i = 0
          · subst hi
            simp [ha.ok, ha.lenA, rowsT_len, e2, e5, bne, b2, b5]
            exact wf_points ha hs hn ih (by simpa using hP)
          · have bi : (i == 0) = false := by simpa using hi
            rw [bi] at hP
            simpa [QP, QI, ha.ok, ha.lenA, rowsT_len, e2, e5, hi, bne, b2, b5, bi] using hP
      · have bn : (n == []) = false := by simpa using hn0
        rw [bn] at hP
        simpa [QP, QI, ha.ok, ha.lenA, rowsT_len, e2, hn0, bne, b2, bn] using hP
theorem wfs_spec : ∀ (l : List Ty), sizeL l < 2 ^ 38 → okTs l → ∀ t ∈ l, PureC (env R) 42 [.agg ((rowT t).map .pv)] fun r => r = BB (valid t)
  | [], _, _, _, h => by cases h
  | e :: l, ho, hk, a, h => by
    simp only [sizeL] at ho
    simp only [okTs] at hk
    rcases List.mem_cons.1 h with h' | h'
    · rw [h']
      exact wf_spec e (by omega) hk.1 _ (TRep.of_row e)
    · exact wfs_spec l (by omega) hk.2 a h'
end
theorem validate_small {t : Ty} (h : size t < 2 ^ 38) (ho : okT t) {x : AV} (hx : TRep t x) : PureC (env R) 28 [x] fun r => r = I64 (verdict t) := by
  have e1 := size_spec (R := R) t (by omega) x hx
  have e2 := depth_spec (R := R) t (by omega) x hx
  have e3 := validNodes_spec (R := R) t h ho x hx
  have hv : verdict t = bif decide (200 < size t) || decide (12 < depth t) then 4 else bif valid t then 0 else 2 := rfl
  generalize hz : size t = z at *
  generalize hd : depth t = d at *
  generalize hw : valid t = w at *
  obtain ⟨k, n, i, ts⟩ := t
  obtain ⟨a, rfl, ha⟩ := hx
  refine e28 (u0 := .agg [I64 k, SS n, I64 i, a]) (by simp [ha.close]) (p28_0 ?_)
  simp [ha.ok]
  refine wCall_pure e1 ?_
  rintro v rfl
  have fin : ∀ b : Bool, b = (decide (200 < z) || decide (12 < d)) → wCond (BB b) (QP (fun r => r = I64 (verdict (.mk k n i ts))) (I64 4) ⟨[[I64 k, SS n, I64 i, a]], []⟩)
      (wLd (env R) ⟨[[I64 k, SS n, I64 i, a]], []⟩ (some 4) (.ptr 0 0) fun a13 => wCall (env R) (LFE (env R) 28 0 0 0) (.func (.func 54) [] []) [a13] ⟨[[I64 k, SS n, I64 i, a]], []⟩ fun a14 s1x9 => wNot a14 fun a15 => wCond a15 (QP (fun r => r = I64 (verdict (.mk k n i ts))) (I64 2) s1x9) (P28_1 R 0 0 0 s1x9 (QP fun r => r = I64 (verdict (.mk k n i ts))))) := by
    rintro b rfl
    cases hb : (decide (200 < z) || decide (12 < d)) with
    | true => simp [QP, QI, hv, hb]
    | false =>
      simp
      refine wCall_pure e3 ?_
      rintro v rfl
      cases w with
      | false => simp [QP, QI, hv, hb]
      | true =>
        simp
        refine p28_1 ?_
        simp [QP, QI, hv, hb]
  by_cases c1 : 200 < z
  · have c1' : (200 < (z : Int)) := by omega
    have c1n : ¬ ((z : Int) ≤ 200) := by omega
    have := fin true (by simp [c1])
    simpa [c1', c1n] using this
  · have c1' : ¬ (200 < (z : Int)) := by omega
    have c1n : ((z : Int) ≤ 200) := by omega
    simp [c1', c1n]
    refine wCall_pure e2 ?_
    rintro v rfl
    by_cases c2 : 12 < d
    · have c2' : (12 < (d : Int)) := by omega
      have c2n : ¬ ((d : Int) ≤ 12) := by omega
      have := fin true (by simp [c2])
      simpa [c1', c1n, c2', c2n] using this
    · have c2' : ¬ (12 < (d : Int)) := by omega
      have c2n : ((d : Int) ≤ 12) := by omega
      have := fin false (by simp [c1, c2])
      simpa [c1', c1n, c2', c2n] using this
theorem validate_spec {t : Ty} (h : size t < 2 ^ 60) (ho : okT t) {x : AV} (hx : TRep t x) : PureC (env R) 28 [x] fun r => r = I64 (verdict t) := by
  by_cases hs : size t < 2 ^ 38
  · exact validate_small hs ho hx
  have e1 := size_spec (R := R) t (by omega) x hx
  have hv : verdict t = 4 := by
    unfold verdict
    rw [decide_eq_true (show 200 < size t by omega)]
    rfl
  rw [hv]
  generalize hz : size t = z at *
  obtain ⟨k, n, i, ts⟩ := t
  obtain ⟨a, rfl, ha⟩ := hx
  refine e28 (u0 := .agg [I64 k, SS n, I64 i, a]) (by simp [ha.close]) (p28_0 ?_)
  simp [ha.ok]
  refine wCall_pure e1 ?_
  rintro v rfl
  have c1' : (200 < (z : Int)) := by omega
  have c1n : ¬ ((z : Int) ≤ 200) := by omega
  simp [QP, QI, c1', c1n]
theorem rvalidate_small {t : Ty} (h : size t < 2 ^ 38) (ho : okT t) {x : AV} (hx : TRep t x) : PureC (env R) 14 [x] fun r => r = I64 (verdict t) := by
  have e1 := rsize_spec (R := R) t (by omega) x hx
  have e2 := rdepth_spec (R := R) t (by omega) x hx
  have e3 := wf_spec (R := R) t h ho x hx
  have hv : verdict t = bif decide (200 < size t) || decide (12 < depth t) then 4 else bif valid t then 0 else 2 := rfl
  generalize hz : size t = z at *
  generalize hd : depth t = d at *
  generalize hw : valid t = w at *
  obtain ⟨k, n, i, ts⟩ := t
  obtain ⟨a, rfl, ha⟩ := hx
  refine e14 (u0 := .agg [I64 k, SS n, I64 i, a]) (by simp [ha.close]) (p14_0 ?_)
  simp [ha.ok]
  refine wCall_pure e1 ?_
  rintro v rfl
  have fin : ∀ b : Bool, b = (decide (200 < z) || decide (12 < d)) → wCond (BB b) (QP (fun r => r = I64 (verdict (.mk k n i ts))) (I64 4) ⟨[[I64 k, SS n, I64 i, a]], []⟩)
      (wLd (env R) ⟨[[I64 k, SS n, I64 i, a]], []⟩ (some 4) (.ptr 0 0) fun a13 => wCall (env R) (LFE (env R) 14 0 0 0) (.func (.func 42) [] []) [a13] ⟨[[I64 k, SS n, I64 i, a]], []⟩ fun a14 s1x9 => wNot a14 fun a15 => wCond a15 (QP (fun r => r = I64 (verdict (.mk k n i ts))) (I64 2) s1x9) (P14_1 R 0 0 0 s1x9 (QP fun r => r = I64 (verdict (.mk k n i ts))))) := by
    rintro b rfl
    cases hb : (decide (200 < z) || decide (12 < d)) with
    | true => simp [QP, QI, hv, hb]
    | false =>
      simp
      refine wCall_pure e3 ?_
      rintro v rfl
      cases w with
      | false => simp [QP, QI, hv, hb]
      | true =>
        simp
        refine p14_1 ?_
        simp [QP, QI, hv, hb]
  by_cases c1 : 200 < z
  · have c1' : (200 < (z : Int)) := by omega
    have c1n : ¬ ((z : Int) ≤ 200) := by omega
    have := fin true (by simp [c1])
    simpa [c1', c1n] using this
  · have c1' : ¬ (200 < (z : Int)) := by omega
    have c1n : ((z : Int) ≤ 200) := by omega
    simp [c1', c1n]
    refine wCall_pure e2 ?_
    rintro v rfl
    by_cases c2 : 12 < d
    · have c2' : (12 < (d : Int)) := by omega
      have c2n : ¬ ((d : Int) ≤ 12) := by omega
      have := fin true (by simp [c2])
      simpa [c1', c1n, c2', c2n] using this
    · have c2' : ¬ (12 < (d : Int)) := by omega
      have c2n : ((d : Int) ≤ 12) := by omega
      have := fin false (by simp [c1, c2])
      simpa [c1', c1n, c2', c2n] using this
theorem rvalidate_spec {t : Ty} (h : size t < 2 ^ 60) (ho : okT t) {x : AV} (hx : TRep t x) : PureC (env R) 14 [x] fun r => r = I64 (verdict t) := by
  by_cases hs : size t < 2 ^ 38
  · exact rvalidate_small hs ho hx
  have e1 := rsize_spec (R := R) t (by omega) x hx
  have hv : verdict t = 4 := by
    unfold verdict
    rw [decide_eq_true (show 200 < size t by omega)]
    rfl
  rw [hv]
  generalize hz : size t = z at *
  obtain ⟨k, n, i, ts⟩ := t
  obtain ⟨a, rfl, ha⟩ := hx
  refine e14 (u0 := .agg [I64 k, SS n, I64 i, a]) (by simp [ha.close]) (p14_0 ?_)
  simp [ha.ok]
  refine wCall_pure e1 ?_
  rintro v rfl
  have c1' : (200 < (z : Int)) := by omega
  have c1n : ¬ ((z : Int) ≤ 200) := by omega
  simp [QP, QI, c1', c1n]
end
end Go.Proofs.YtmipbilokjkjiaaGreatDoor
