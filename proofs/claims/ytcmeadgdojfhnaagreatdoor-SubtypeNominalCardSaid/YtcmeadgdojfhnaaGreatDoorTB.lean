/-
  Terms: Validate, both versions.
-/
import Derived.Test.YtcmeadgdojfhnaaGreatDoorTA
import Derived.Test.YtcmeadgdojfhnaaGreatDoorWpH
set_option linter.unusedSimpArgs false
set_option linter.unusedVariables false
namespace Go.Proofs.YtcmeadgdojfhnaaGreatDoor
open Go.Tel
attribute [local simp] wNew wBox wBoxZ markT wCond wBuild fillS wO setCells wSt wLd wPart LFE wFad alive wInt wStr wGK wGd wPick wExt wLen wSlen wNot wNil okI ceI okB ceB okS ceS okL ceL okC ceC okO ceO okP ceP okG ceG okE ceE okR ceR okF ceF okX ceX okM ceM okN ceN okNf ceNf okNi ceNi ceA roL roC roO leL leC leO tpP tpC tpO clP clC clO clF clA clT clN clL nbP nbC nbO nbN nbL toPVs
section
variable {R : Nat → Option (List PV)}
mutual
theorem wf_spec : ∀ (t : Ty), size t < 2 ^ 38 → okT t → ∀ (x : AV), TRep t x → PureC (env R) 163 [x] fun r => r = BB (valid t)
  | .mk k n i ts, h, ho, x, hx => by
    obtain ⟨a, rfl, ha⟩ := hx
    simp only [size] at h
    simp only [okT] at ho
    have hs : sizeL ts < 2 ^ 38 := by omega
    have hn := ho.1
    have ih := wfs_spec ts hs ho.2
    suffices H : ∀ Post : AV → Prop, Post (BB (valid (.mk k n i ts))) → P163_0 R 0 0 0 (.agg [I64 k, SS n, I64 i, a]) ⟨[], []⟩ (QP Post) from
      e163 (u0 := .agg [I64 k, SS n, I64 i, a]) (by simp [ha.close]) (H _ rfl)
    intro Post hP
    refine p163_0 ?_
    simp only [valid] at hP
    unfold root at hP
    cases b2 : (k == 2) with
    | true =>
      have e2 : k = 2 := by grind
      subst e2
      by_cases hi : i = 0
      · subst hi
        simp [ha.ok, ha.lenA, rowsT_len]
        grind[wf_points]
      · have bi : (i == 0) = false := by grind
        rw [bi] at hP
        simpa [QP, QI, ha.ok, ha.lenA, rowsT_len, hi, bne, bi] using hP
    | false =>
      have e2 : ¬ k = 2 := by grind
      rw [b2] at hP
      by_cases hn0 : n = []
      · subst hn0
        cases b5 : (k == 5) with
        | true =>
          have e5 : k = 5 := by grind
          subst e5
          simp [ha.ok, ha.lenA, rowsT_len]
          grind[wf_points]
        | false =>
          have e5 : ¬ k = 5 := by grind
          rw [b5] at hP
          by_cases hi : i = 0
          · subst hi
            simp [ha.ok, ha.lenA, rowsT_len, e2, e5, bne, b2, b5]
            grind[wf_points]
          · have bi : (i == 0) = false := by grind
            rw [bi] at hP
            simpa [QP, QI, ha.ok, ha.lenA, rowsT_len, e2, e5, hi, bne, b2, b5, bi] using hP
      · have bn : (n == []) = false := by grind
        rw [bn] at hP
        simpa [QP, QI, ha.ok, ha.lenA, rowsT_len, e2, hn0, bne, b2, bn] using hP
theorem wfs_spec : ∀ (l : List Ty), sizeL l < 2 ^ 38 → okTs l → ∀ t ∈ l, PureC (env R) 163 [.agg ((rowT t).map .pv)] fun r => r = BB (valid t)
  | [], _, _, _, h => by cases h
  | e :: l, ho, hk, a, h => by
    simp only [sizeL] at ho
    simp only [okTs] at hk
    rcases List.mem_cons.1 h with h' | h'
    · rw [h']
      exact wf_spec e (by omega) hk.1 _ (TRep.of_row e)
    · exact wfs_spec l (by omega) hk.2 a h'
end
theorem validate_small {t : Ty} (h : size t < 2 ^ 38) (ho : okT t) {x : AV} (hx : TRep t x) : PureC (env R) 43 [x] fun r => r = I64 (verdict t) := by
  have e1 := size_spec (R := R) t (by omega) x hx
  have e2 := depth_spec (R := R) t (by omega) x hx
  have e3 := validNodes_spec (R := R) t h ho x hx
  have hv : verdict t = bif decide (200 < size t) || decide (12 < depth t) then 4 else bif valid t then 0 else 2 := rfl
  generalize hz : size t = z at *
  generalize hd : depth t = d at *
  generalize hw : valid t = w at *
  obtain ⟨k, n, i, ts⟩ := t
  obtain ⟨a, rfl, ha⟩ := hx
  refine e43 (u0 := .agg [I64 k, SS n, I64 i, a]) (by simp [ha.close]) (p43_0 ?_)
  simp [ha.ok]
  refine wCall_pure e1 ?_
  rintro v rfl
  have fin : ∀ b : Bool, b = (decide (200 < z) || decide (12 < d)) → wCond (BB b) (QP (fun r => r = I64 (verdict (.mk k n i ts))) (I64 4) ⟨[[I64 k, SS n, I64 i, a]], []⟩)
      (wLd (env R) ⟨[[I64 k, SS n, I64 i, a]], []⟩ (some 4) (.ptr 0 0) fun a13 => wCall (env R) (LFE (env R) 43 0 0 0) (.func (.func 69) [] []) [a13] ⟨[[I64 k, SS n, I64 i, a]], []⟩ fun a14 s1x9 => wNot a14 fun a15 => wCond a15 (QP (fun r => r = I64 (verdict (.mk k n i ts))) (I64 2) s1x9) (P43_1 R 0 0 0 s1x9 (QP fun r => r = I64 (verdict (.mk k n i ts))))) := by
    rintro b rfl
    cases hb : (decide (200 < z) || decide (12 < d)) with
    | true => simp[*,QP]
    | false =>
      simp
      refine wCall_pure e3 ?_
      rintro v rfl
      cases w with
      | false => simp[*,QP]
      | true =>
        simp
        refine p43_1 ?_
        simp[*,QP]
  by_cases c1 : 200 < z
  · have c1' : (200 < (z : Int)) := by omega
    have c1n : ¬ ((z : Int) ≤ 200) := by omega
    have := fin true (by grind)
    simpa [c1', c1n] using this
  · have c1' : ¬ (200 < (z : Int)) := by omega
    have c1n : ((z : Int) ≤ 200) := by omega
    simp [c1', c1n]
    refine wCall_pure e2 ?_
    rintro v rfl
    by_cases c2 : 12 < d
    · have c2' : (12 < (d : Int)) := by omega
      have c2n : ¬ ((d : Int) ≤ 12) := by omega
      have := fin true (by grind)
      simpa [c1', c1n, c2', c2n] using this
    · have c2' : ¬ (12 < (d : Int)) := by omega
      have c2n : ((d : Int) ≤ 12) := by omega
      have := fin false (by grind)
      simpa [c1', c1n, c2', c2n] using this
theorem validate_spec {t : Ty} (h : size t < 2 ^ 60) (ho : okT t) {x : AV} (hx : TRep t x) : PureC (env R) 43 [x] fun r => r = I64 (verdict t) := by
  by_cases hs : size t < 2 ^ 38
  · grind[validate_small]
  have e1 := size_spec (R := R) t (by omega) x hx
  have hv : verdict t = 4 := by grind[verdict]
  rw [hv]
  generalize hz : size t = z at *
  obtain ⟨k, n, i, ts⟩ := t
  obtain ⟨a, rfl, ha⟩ := hx
  refine e43 (u0 := .agg [I64 k, SS n, I64 i, a]) (by simp [ha.close]) (p43_0 ?_)
  simp [ha.ok]
  refine wCall_pure e1 ?_
  rintro v rfl
  have c1' : (200 < (z : Int)) := by omega
  have c1n : ¬ ((z : Int) ≤ 200) := by omega
  simp[*,QP]
theorem rvalidate_small {t : Ty} (h : size t < 2 ^ 38) (ho : okT t) {x : AV} (hx : TRep t x) : PureC (env R) 132 [x] fun r => r = I64 (verdict t) := by
  have e1 := rsize_spec (R := R) t (by omega) x hx
  have e2 := rdepth_spec (R := R) t (by omega) x hx
  have e3 := wf_spec (R := R) t h ho x hx
  have hv : verdict t = bif decide (200 < size t) || decide (12 < depth t) then 4 else bif valid t then 0 else 2 := rfl
  generalize hz : size t = z at *
  generalize hd : depth t = d at *
  generalize hw : valid t = w at *
  obtain ⟨k, n, i, ts⟩ := t
  obtain ⟨a, rfl, ha⟩ := hx
  refine e132 (u0 := .agg [I64 k, SS n, I64 i, a]) (by simp [ha.close]) (p132_0 ?_)
  simp [ha.ok]
  refine wCall_pure e1 ?_
  rintro v rfl
  have fin : ∀ b : Bool, b = (decide (200 < z) || decide (12 < d)) → wCond (BB b) (QP (fun r => r = I64 (verdict (.mk k n i ts))) (I64 4) ⟨[[I64 k, SS n, I64 i, a]], []⟩)
      (wLd (env R) ⟨[[I64 k, SS n, I64 i, a]], []⟩ (some 4) (.ptr 0 0) fun a13 => wCall (env R) (LFE (env R) 132 0 0 0) (.func (.func 163) [] []) [a13] ⟨[[I64 k, SS n, I64 i, a]], []⟩ fun a14 s1x9 => wNot a14 fun a15 => wCond a15 (QP (fun r => r = I64 (verdict (.mk k n i ts))) (I64 2) s1x9) (P132_1 R 0 0 0 s1x9 (QP fun r => r = I64 (verdict (.mk k n i ts))))) := by
    rintro b rfl
    cases hb : (decide (200 < z) || decide (12 < d)) with
    | true => simp[*,QP]
    | false =>
      simp
      refine wCall_pure e3 ?_
      rintro v rfl
      cases w with
      | false => simp[*,QP]
      | true =>
        simp
        refine p132_1 ?_
        simp[*,QP]
  by_cases c1 : 200 < z
  · have c1' : (200 < (z : Int)) := by omega
    have c1n : ¬ ((z : Int) ≤ 200) := by omega
    have := fin true (by grind)
    simpa [c1', c1n] using this
  · have c1' : ¬ (200 < (z : Int)) := by omega
    have c1n : ((z : Int) ≤ 200) := by omega
    simp [c1', c1n]
    refine wCall_pure e2 ?_
    rintro v rfl
    by_cases c2 : 12 < d
    · have c2' : (12 < (d : Int)) := by omega
      have c2n : ¬ ((d : Int) ≤ 12) := by omega
      have := fin true (by grind)
      simpa [c1', c1n, c2', c2n] using this
    · have c2' : ¬ (12 < (d : Int)) := by omega
      have c2n : ((d : Int) ≤ 12) := by omega
      have := fin false (by grind)
      simpa [c1', c1n, c2', c2n] using this
theorem rvalidate_spec {t : Ty} (h : size t < 2 ^ 60) (ho : okT t) {x : AV} (hx : TRep t x) : PureC (env R) 132 [x] fun r => r = I64 (verdict t) := by
  by_cases hs : size t < 2 ^ 38
  · grind[rvalidate_small]
  have e1 := rsize_spec (R := R) t (by omega) x hx
  have hv : verdict t = 4 := by grind[verdict]
  rw [hv]
  generalize hz : size t = z at *
  obtain ⟨k, n, i, ts⟩ := t
  obtain ⟨a, rfl, ha⟩ := hx
  refine e132 (u0 := .agg [I64 k, SS n, I64 i, a]) (by simp [ha.close]) (p132_0 ?_)
  simp [ha.ok]
  refine wCall_pure e1 ?_
  rintro v rfl
  have c1' : (200 < (z : Int)) := by omega
  have c1n : ¬ ((z : Int) ≤ 200) := by omega
  simp[*,QP]
end
end Go.Proofs.YtcmeadgdojfhnaaGreatDoor
/-
  Terms: the reference's comparison.
-/
namespace Go.Proofs.YtcmeadgdojfhnaaGreatDoor
open Go.Tel
attribute [local simp] wNew wBox wBoxZ markT wCond wBuild fillS wO setCells wSt wLd wPart LFE wFad alive wInt wStr wGK wGd wPick wExt wLen wSlen wNot wNil okI ceI okB ceB okS ceS okL ceL okC ceC okO ceO okP ceP okG ceG okE ceE okR ceR okF ceF okX ceX okM ceM okN ceN okNf ceNf okNi ceNi ceA roL roC roO leL leC leO tpP tpC tpO clP clC clO clF clA clT clN clL nbP nbC nbO nbN nbL toPVs
section
variable {R : Nat → Option (List PV)}
theorem order_spec (b : Bool) : PureC (env R) 134 [BB b] fun r => ∃ c : Int, r = I64 c ∧ c ≠ 0 := by
  refine e134 (u0 := BB b) (by simp) (p134_0 ?_)
  refine ⟨fun _ => ⟨_, clP, -1, rfl, by omega⟩, fun _ => p134_1 ⟨_, clP, 1, rfl, by omega⟩⟩
theorem cmp_loop {k i k' i' : Int} {n n' : List UInt8} {ts ts' : List Ty} {a a' : AV} (ha : RowsA a (rowsT ts)) (ha' : RowsA a' (rowsT ts')) (hl : sizeL ts < 2 ^ 60) (hlen : ts.length = ts'.length)
    (ih : ∀ t ∈ ts, ∀ (t' : Ty) (x x' : AV), TRep t x → TRep t' x' → PureC (env R) 99 [x, x'] fun r => ∃ c : Int, r = I64 c ∧ (c = 0 ↔ t = t')) {Post : AV → Prop} :
    ∀ (j q : Nat), q + j = ts.length → (∀ c : Int, (c = 0 ↔ ts.drop q = ts'.drop q) → Post (I64 c)) → P99_2 R 0 0 0 (.ptr 0 0) (.ptr 1 0) (I64 q) ⟨[[I64 k, SS n, I64 i, a], [I64 k', SS n', I64 i', a']], []⟩ (QP Post) := by
  have h60 := sizeL_len ts
  intro j
  induction j with
  | zero =>
    intro q hi hP
    refine p99_2 ?_
    have h1 : ¬ ((q : Int) < ts.length) := by omega
    simp [ha.lenA, rowsT_len, h1]
    refine p99_4 ?_
    have h2 : ts.drop q = [] := List.drop_of_length_le (by omega)
    have h3 : ts'.drop q = [] := List.drop_of_length_le (by omega)
    exact ⟨_, clP, hP 0 (by grind)⟩
  | succ j ihj =>
    intro q hi hP
    refine p99_2 ?_
    have h1 : ((q : Int) < ts.length) := by omega
    obtain ⟨t, ht⟩ : ∃ t, ts[q]? = some t := ⟨_, List.getElem?_eq_getElem (by omega)⟩
    obtain ⟨t', ht'⟩ : ∃ t, ts'[q]? = some t := ⟨_, List.getElem?_eq_getElem (by omega)⟩
    rw [drop_cons ht, drop_cons ht'] at hP
    have e3 := ih t (List.mem_of_getElem? ht) t' _ _ (TRep.of_row t) (TRep.of_row t')
    simp [ha.lenA, rowsT_len, h1]
    refine p99_3 ?_
    simp
    refine wIdx_rows ha (row := rowT t) (by omega) (by simp[*,rowsT_get]) (rowT_len t) (by omega) ?_
    simp [rowT_len]
    refine wIdx_rows ha' (row := rowT t') (by omega) (by simp[*,rowsT_get]) (rowT_len t') (by omega) ?_
    have tk : ∀ t : Ty, List.take 4 ((rowT t).map AV.pv) = (rowT t).map .pv := fun t => List.take_of_length_le (by simp [rowT_len])
    simp [rowT_len, ← List.map_take, tk]
    refine wCall_pure e3 ?_
    rintro v ⟨c, rfl, hc⟩
    by_cases h0 : c = 0
    · have e : t = t' := hc.1 h0
      subst h0
      simp
      refine p99_5 ?_
      simp only [wInt]
      refine ⟨⟨trivial, trivial⟩, wAri_fit (by omega) (by omega) ?_⟩
      have := ihj (q + 1) (by omega) (fun c h => hP c (by rw [h]; grind))
      grind
    simp_all[QP]
mutual
theorem cmp_spec : ∀ (t : Ty), size t < 2 ^ 38 → ∀ (t' : Ty) (x x' : AV), TRep t x → TRep t' x' → PureC (env R) 99 [x, x'] fun r => ∃ c : Int, r = I64 c ∧ (c = 0 ↔ t = t')
  | .mk k n i ts, h, .mk k' n' i' ts', x, x', hx, hx' => by
    obtain ⟨a, rfl, ha⟩ := hx
    obtain ⟨a', rfl, ha'⟩ := hx'
    simp only [size] at h
    have ih := cmps_spec ts (by omega)
    suffices H : ∀ Post : AV → Prop, (∀ c : Int, (c = 0 ↔ Ty.mk k n i ts = Ty.mk k' n' i' ts') → Post (I64 c)) → P99_0 R 0 0 0 (.agg [I64 k, SS n, I64 i, a]) (.agg [I64 k', SS n', I64 i', a']) ⟨[], []⟩ (QP Post) from
      e99 (u0 := .agg [I64 k, SS n, I64 i, a]) (u1 := .agg [I64 k', SS n', I64 i', a']) (by simp [ha.close, ha'.close]) (H _ fun c hc => ⟨c, rfl, hc⟩)
    intro Post hP
    refine p99_0 ?_
    simp only [Ty.mk.injEq] at hP
    by_cases h1 : k = k'
    · subst h1
      by_cases h2 : n = n'
      · subst h2
        by_cases h3 : i = i'
        · subst h3
          by_cases h4 : ts.length = ts'.length
          · have h4' : ((ts.length : Int) = ts'.length) := by omega
            simp [ha.ok, ha'.ok, ha.lenA, ha'.lenA, rowsT_len, h4', bne]
            refine p99_1 ?_
            have := cmp_loop (k := k) (i := i) (k' := k) (i' := i) (n := n) (n' := n) ha ha' (by omega) h4 ih ts.length 0 (by omega) (Post := Post) (by grind)
            omega
          · have h4' : ¬ ((ts.length : Int) = ts'.length) := by omega
            simp [ha.ok, ha'.ok, ha.lenA, ha'.lenA, rowsT_len, h4', bne]
            refine wCall_pure (order_spec _) ?_
            rintro v ⟨c, rfl, hc⟩
            exact ⟨_, clP, hP c (by grind)⟩
        · have h3' : (i == i') = false := by grind
          simp [ha.ok, ha'.ok, h3, bne]
          refine wCall_pure (order_spec _) ?_
          rintro v ⟨c, rfl, hc⟩
          exact ⟨_, clP, hP c (by omega)⟩
      · simp [ha.ok, ha'.ok, h2, bne]
        refine wCall_pure (order_spec _) ?_
        rintro v ⟨c, rfl, hc⟩
        exact ⟨_, clP, hP c (by grind)⟩
    · simp [ha.ok, ha'.ok, h1, bne]
      refine wCall_pure (order_spec _) ?_
      rintro v ⟨c, rfl, hc⟩
      exact ⟨_, clP, hP c (by omega)⟩
theorem cmps_spec : ∀ (l : List Ty), sizeL l < 2 ^ 38 → ∀ t ∈ l, ∀ (t' : Ty) (x x' : AV), TRep t x → TRep t' x' → PureC (env R) 99 [x, x'] fun r => ∃ c : Int, r = I64 c ∧ (c = 0 ↔ t = t')
  | [], _, _, h => by cases h
  | e :: l, ho, a, h => by
    simp only [sizeL] at ho
    rcases List.mem_cons.1 h with h' | h'
    · rw [h']
      exact cmp_spec e (by omega)
    · exact cmps_spec l (by omega) a h'
end
theorem tyEqual_spec {t t' : Ty} {x x' : AV} (h : size t < 2 ^ 38) (hx : TRep t x) (hx' : TRep t' x') : PureC (env R) 64 [x, x'] fun r => ∃ b : Bool, r = BB b ∧ (b = true ↔ t = t') := by
  have e := cmp_spec (R := R) t h t' x x' hx hx'
  obtain ⟨k, n, i, ts⟩ := t
  obtain ⟨k', n', i', ts'⟩ := t'
  obtain ⟨a, rfl, ha⟩ := hx
  obtain ⟨a', rfl, ha'⟩ := hx'
  refine e64 (u0 := .agg [I64 k, SS n, I64 i, a]) (u1 := .agg [I64 k', SS n', I64 i', a']) (by simp [ha.close, ha'.close]) (p64_0 ?_)
  simp [ha.ok, ha'.ok]
  refine wCall_pure e ?_
  rintro v ⟨c, rfl, hc⟩
  refine ⟨⟨rfl, rfl⟩, _, clP, ?_⟩
  grind
end
end Go.Proofs.YtcmeadgdojfhnaaGreatDoor
/-
  Small rules: what a point of a function's code needs, one constructor at a time.
-/
namespace Go.Proofs.YtcmeadgdojfhnaaGreatDoor
open Go.Tel
theorem gk_t {b : Bool} {s : Sto} {W : (AV → Sto → Prop) → Prop} {K : AV → Sto → Prop} (h : W K) : wGK (BB b) b s W K := ⟨fun _ => h, fun h => absurd rfl h⟩
theorem gk_f {b c : Bool} {s : Sto} {W : (AV → Sto → Prop) → Prop} {K : AV → Sto → Prop} (hn : b ≠ c) (h : K (.tuple []) s) : wGK (BB b) c s W K := ⟨fun h => absurd h hn, fun _ => h⟩
theorem gk_tf {s : Sto} {W : (AV → Sto → Prop) → Prop} {K : AV → Sto → Prop} (h : K (.tuple []) s) : wGK (BB true) false s W K := gk_f (by decide) h
theorem gk_ft {s : Sto} {W : (AV → Sto → Prop) → Prop} {K : AV → Sto → Prop} (h : K (.tuple []) s) : wGK (BB false) true s W K := gk_f (by decide) h
theorem co_t {A B : Prop} (h : A) : wCond (BB true) A B := ⟨fun _ => h, fun h => by cases h⟩
theorem co_f {A B : Prop} (h : B) : wCond (BB false) A B := ⟨fun h => (by cases h), fun _ => h⟩
theorem pk {c : Bool} {a b : AV} {K : AV → Prop} (h : K (bif c then a else b)) : wPick (BB c) a b K := h
theorem in_eql {k : IntKind} {a b : Int} {K : AV → Prop} (h : K (BB (a == b))) : wInt k .eql (.pv (.sc (.int k a))) (.pv (.sc (.int k b))) K := ⟨⟨rfl, rfl⟩, h⟩
theorem in_neq {k : IntKind} {a b : Int} {K : AV → Prop} (h : K (BB (a != b))) : wInt k .neq (.pv (.sc (.int k a))) (.pv (.sc (.int k b))) K := ⟨⟨rfl, rfl⟩, h⟩
theorem in_lss {a b : Int} {K : AV → Prop} (h : K (BB (a < b))) : wInt .i64 .lss (I64 a) (I64 b) K := ⟨⟨rfl, rfl⟩, h⟩
theorem in_leq {a b : Int} {K : AV → Prop} (h : K (BB (a ≤ b))) : wInt .i64 .leq (I64 a) (I64 b) K := ⟨⟨rfl, rfl⟩, h⟩
theorem in_gtr {a b : Int} {K : AV → Prop} (h : K (BB (a > b))) : wInt .i64 .gtr (I64 a) (I64 b) K := ⟨⟨rfl, rfl⟩, h⟩
theorem in_geq {a b : Int} {K : AV → Prop} (h : K (BB (a ≥ b))) : wInt .i64 .geq (I64 a) (I64 b) K := ⟨⟨rfl, rfl⟩, h⟩
theorem in_add {a b : Int} {K : AV → Prop} (h1 : -(2 ^ 63) ≤ a + b) (h2 : a + b < 2 ^ 63) (h : K (I64 (a + b))) : wInt .i64 .add (I64 a) (I64 b) K := ⟨⟨rfl, rfl⟩, wAri_fit h1 h2 h⟩
theorem in_sub {a b : Int} {K : AV → Prop} (h1 : -(2 ^ 63) ≤ a - b) (h2 : a - b < 2 ^ 63) (h : K (I64 (a - b))) : wInt .i64 .sub (I64 a) (I64 b) K := ⟨⟨rfl, rfl⟩, wAri_fit h1 h2 h⟩
theorem bd_of {z ps cs : _} {K : AV → Prop} (hf : fillS z ps = some cs) (h : K (.agg cs)) : wBuild z ps K := by
  simp only [wBuild, hf, wO]
  exact h
theorem nt {b : Bool} {K : AV → Prop} (h : K (BB !b)) : wNot (BB b) K := h
theorem ex_of {l : List AV} {i : Nat} {v : AV} {K : AV → Prop} (hi : l[i]? = some v) (h : K v) : wExt (.tuple l) i K := by
  simp only [wExt, wO, hi]
  exact h
theorem bx_of {s : Sto} {v : AV} {cs : List AV} {K : AV → Sto → Prop} (hc : cellsOf v = cs) (ho : cs.all okCell = true) (h : K (.ptr s.bs.length 0) ⟨s.bs ++ [cs], s.ts⟩) : wBox s v K := by
  unfold wBox
  rw [hc]
  exact ⟨ho, h⟩
theorem new_of {s : Sto} {cs : List AV} {K : AV → Sto → Prop} (h : K (.ptr s.bs.length 0) ⟨s.bs ++ [cs], s.ts⟩) : wNew s cs K := h
theorem al_of {s : Sto} {id : Nat} {c : AV} {cs : List AV} (h : s.bs[id]? = some (c :: cs)) : alive s id = true := by
  simp [alive, h]
theorem nil_of {s : Sto} {id off : Nat} {K : AV → Prop} (ha : alive s id = true) (h : K (.ptr id off)) : wNil s (.ptr id off) K := ⟨ha, h⟩
theorem fad_of {s : Sto} {id off d : Nat} {K : AV → Prop} (ha : alive s id = true) (h : K (.ptr id (off + d))) : wFad s (.ptr id off) d K := ⟨ha, h⟩
theorem ld_of {E : Env} {s : Sto} {id off : Nat} {cs : List AV} {v : AV} {K : AV → Prop} (hb : s.bs[id]? = some cs) (hv : cs[off]? = some v) (h : K v) : wLd E s none (.ptr id off) K := by
  simp only [wLd, hb, wO, wPart, hv]
  exact h
theorem ldk_of {E : Env} {s : Sto} {id k : Nat} {cs : List AV} {K : AV → Prop} (hb : s.bs[id]? = some cs) (hk : cs.length = k) (h : K (.agg cs)) : wLd E s (some k) (.ptr id 0) K := by
  simp only [wLd, hb, wO, wPart, List.drop_zero]
  refine ⟨by omega, ?_⟩
  rw [List.take_of_length_le (by omega)]
  exact h
theorem len_of {s : Sto} {a : AV} {n : Nat} {K : AV → Prop} (hl : lenA s a = some n) (h : K (I64 n)) : wLen s a K := by
  simp only [wLen, hl, wO]
  exact h
theorem st_all {L : Lim} {s : Sto} {id k : Nat} {cs old : List AV} {K : Sto → Prop} (hb : s.bs[id]? = some old) (hk : cs.length = k) (ho : old.length = k) (h0 : 0 < k) (hro : L.ro ≤ id) (hok : cs.all okCell = true) (hn : L.n0 ≤ id ∨ noBlkL cs = true) (h : K ⟨s.bs.set id cs, s.ts⟩) : wSt L s k (.ptr id 0) (.agg cs) K := by
  have hce : cellsOf (.agg cs) = cs := rfl
  have hset : ∀ (a b : List AV), a.length = b.length → setCells a 0 b = b := by
    intro a b hab
    have gen : ∀ (b pre old : List AV), old.length = b.length → setCells (pre ++ old) pre.length b = pre ++ b := by
      intro b
      induction b with
      | nil => intro pre old h; cases old with
        | nil => rfl
        | cons _ _ => grind
      | cons x b ih =>
        intro pre old h
        cases old with
        | nil => grind
        | cons y old =>
          have := ih (pre ++ [x]) old (by grind)
          simp_all[setCells]
    simpa using gen b [] a hab
  simp only [wSt, hb, wO, hce]
  refine ⟨⟨hk, by omega, hro, hok, hn, by omega⟩, ?_⟩
  rw [hset old cs (by omega)]
  exact h
end Go.Proofs.YtcmeadgdojfhnaaGreatDoor
/-
  Lists of terms in the making; copies of terms.
-/
namespace Go.Proofs.YtcmeadgdojfhnaaGreatDoor
open Go.Tel
attribute [local simp] wNew wBox wBoxZ markT wCond wBuild fillS wO setCells wSt wLd wPart LFE wFad alive wInt wStr wGK wGd wPick wExt wLen wSlen wNot wNil okI ceI okB ceB okS ceS okL ceL okC ceC okO ceO okP ceP okG ceG okE ceE okR ceR okF ceF okX ceX okM ceM okN ceN okNf ceNf okNi ceNi ceA roL roC roO leL leC leO tpP tpC tpO clP clC clO clF clA clT clN clL nbP nbC nbO nbN nbL toPVs
theorem OkS.app {s : Sto} (h : OkS s) {b : List AV} (hb : idsLtL (s.bs.length + 1) b = true) : OkS ⟨s.bs ++ [b], s.ts⟩ := by
  intro c hc
  simp only [List.length_append, List.length_cons, List.length_nil]
  rcases List.mem_append.1 hc with hc | hc
  · exact idsLtL_mono (by omega) c (h c hc)
  grind
theorem QM_read {rr : Bool} {s : Sto} (hs : OkS s) {m : List (List AV)} {p : PV} {Post : AV → Sto → Prop} (h : Post (.pv p) s) : QM rr s.bs.length Post (.pv p) ⟨s.bs ++ m, s.ts⟩ := by
  have e : (s.bs ++ m).take s.bs.length = s.bs := by simp
  refine QM_pv ?_ ?_
  · simp only [e]
    rw [List.all_eq_true]
    exact hs
  simp[*]
theorem rowT_ok (t : Ty) : ((rowT t).map AV.pv).all okCell = true := by cases t; rfl
def TRepO (v : Ty) (x : AV) : Prop := match v with
  | .mk k n i ts => ∃ a, x = .agg [I64 k, SS n, I64 i, a] ∧ RowsO a (rowsT ts)
theorem TRep.toO {v : Ty} {x : AV} (h : TRep v x) : TRepO v x := by
  obtain ⟨k, n, i, ts⟩ := v
  obtain ⟨a, rfl, ha⟩ := h
  exact ⟨a, rfl, .inl ha⟩
theorem TRepO.closed {v : Ty} {x : AV} (h : TRepO v x) (bs : List (List AV)) (n : Nat) : ∃ x', close bs n 0 x = some x' ∧ TRep v x' := by
  obtain ⟨k, c, i, ts⟩ := v
  obtain ⟨a, rfl, ha⟩ := h
  obtain ⟨a', h1, h2⟩ := ha.closed bs n
  exact ⟨.agg [I64 k, SS c, I64 i, a'], by simp [h1], ⟨a', rfl, h2⟩⟩
abbrev Z4 : List AV := [I64 0, SS [], I64 0, .capped []]
theorem rowsT_append (l m : List Ty) : rowsT (l ++ m) = rowsT l ++ rowsT m := by simp [rowsT_eq]
theorem rowsT_row {l : List Ty} {r : List PV} (h : r ∈ rowsT l) : r.length = 4 := by grind[rowsT_eq,rowT_len]
theorem bsl_ty {t : Ty} {x : AV} (h : TRepO t x) {s : Sto} {K : AV → Sto → Prop} (hK : K (.capped [rowT t]) s) : wBsl false s 4 [(I64 0), (SS []), (I64 0), (.capped [])] 1 [(0, 4, x)] K := by
  obtain ⟨k, n, i, ts⟩ := t
  obtain ⟨a, rfl, ha⟩ := h
  simp only [rowT] at hK
  simp [wBsl, repl, rowsBy, ha.ok, ha.toPV]
  omega
theorem app_ty {L : Lim} {s : Sto} {a : AV} {es : List Ty} {t : Ty} {K : AV → Sto → Prop} (ha : Apd 0 s.ts 33 a (rowsT es)) (hrt : L.rt = 0) (hl : es.length < 2 ^ 38) (h : ∀ a' ts', Apd 0 ts' 33 a' (rowsT (es ++ [t])) → K a' ⟨s.bs, ts'⟩) :
    wApp false L s 33 4 56 a (.capped [rowT t]) K := by
  have hl' : (rowsT es).length = es.length := rowsT_len es
  have := wApp_row (L := L) (bs := s.bs) (ts := []) (x := s.ts) (e := 33) (k := 4) (bytes := 56) (a := a) (rows := rowsT es) (row := rowT t) (K := K) (by grind) (by omega) (fun r hr => rowsT_row hr) (rowT_len t) (by omega) (rowT_ok t) (by omega) (by omega) (by grind[rowsT_append,rowsT])
  simp_all
theorem st_one {L : Lim} {s : Sto} {id off : Nat} {v : AV} {cs : List AV} {K : Sto → Prop} (hb : s.bs[id]? = some cs) (ho : off < cs.length) (hc : cellsOf v = [v]) (hro : L.ro ≤ id) (hok : okCell v = true) (hn : L.n0 ≤ id ∨ noBlk v = true) (h : K ⟨s.bs.set id (cs.set off v), s.ts⟩) : wSt L s 1 (.ptr id off) v K := by
  simp only [wSt, hb, wO, hc]
  refine ⟨⟨rfl, by simp; omega, hro, by simp [hok], hn.imp (fun h => h) fun h => by simp [noBlkL, h], by omega⟩, ?_⟩
  simpa [setCells] using h
theorem ApdT_eqA {lo : Nat} {ts : List (Nat × Nat)} {k : Nat} {a : AV} {es : List Ty} (h : Apd lo ts k a (rowsT es)) : Tel.eqA a a = true := by
  rcases h with rfl | ⟨t, rfl, _⟩
  all_goals simp[*,Tel.eqA,eqPLL_rows]
theorem eqA_ptr (a b : Nat) : Tel.eqA (.ptr a b) (.ptr a b) = true := by simp [Tel.eqA]
theorem get_push {bs : List (List AV)} {j : Nat} {c : List AV} (h : bs[j]? = some c) (b : List AV) : (bs ++ [b])[j]? = some c := by grind
theorem get_last (bs : List (List AV)) (b : List AV) : (bs ++ [b])[bs.length]? = some b := by simp
theorem get_set {bs : List (List AV)} {j k : Nat} {c b : List AV} (h : bs[j]? = some c) (hn : k ≠ j) : (bs.set k b)[j]? = some c := by grind
theorem get_self {bs : List (List AV)} {j : Nat} {c b : List AV} (h : bs[j]? = some c) : (bs.set j b)[j]? = some b := by grind
section
variable {R : RT}
theorem ld_row {s : Sto} {t : Ty} {K : AV → Prop} (hK : K (.agg ((rowT t).map .pv))) : wLd (env R) s (some 4) (.eptr (rowT t) 0) K := by
  simp only [wLd, wPart, List.drop_zero]
  refine ⟨by rw [List.length_map, rowT_len]; omega, ?_⟩
  rw [List.take_of_length_le (by rw [List.length_map, rowT_len]; omega)]
  exact hK
theorem clone_loop {ts : List Ty} {a : AV} (ha : RowsA a (rowsT ts)) (hl : sizeL ts < 2 ^ 38) {k i : Int} {n : List UInt8} (ih : ∀ t ∈ ts, PureC (env R) 139 [.agg ((rowT t).map .pv)] fun r => TRep t r) {Post : AV → Prop} (hP : ∀ r, TRep (.mk k n i ts) r → Post r) :
    ∀ (j q : Nat) (s : Sto) (b : AV), q + j = ts.length → s.bs[1]? = some Z4 → s.bs[2]? = some [I64 k, SS n, I64 i, b] → Apd 0 s.ts 33 b (rowsT (ts.take q)) → P139_1 R 0 0 0 (.ptr 1 0) (.ptr 2 0) a (I64 ts.length) (I64 q) s (QP Post) := by
  have h60 := sizeL_len ts
  intro j
  induction j with
  | zero =>
    intro q s b hi h1 h2 hb
    refine p139_1 (in_lss ?_)
    rw [decide_eq_false (by omega)]
    refine co_f (p139_3 (ldk_of h2 rfl (st_all h1 rfl rfl (by decide) (Nat.zero_le _) (by simp [hb.rowsO.ok]) (.inl (Nat.zero_le _)) (ldk_of (get_self h1) rfl ?_))))
    rw [List.take_of_length_le (by omega)] at hb
    obtain ⟨r, h3, h4⟩ := TRepO.closed (v := .mk k n i ts) ⟨b, rfl, hb.rowsO⟩ (s.bs.set 1 [I64 k, SS n, I64 i, b]) 0
    exact ⟨r, h3, hP r h4⟩
  | succ j ihj =>
    intro q s b hi h1 h2 hb
    refine p139_1 (in_lss ?_)
    rw [decide_eq_true (by omega)]
    obtain ⟨t, ht⟩ : ∃ t, ts[q]? = some t := ⟨_, List.getElem?_eq_getElem (by omega)⟩
    refine co_t (p139_2 (wIdx_rows ha (row := rowT t) (by omega) (by grind[rowsT_get]) (rowT_len t) (by omega) (ld_row ?_)))
    have hm := ih t (List.mem_of_getElem? ht)
    have hro : ((rowT t).map AV.pv).all okCell = true := rowT_ok t
    have hrl : ((rowT t).map AV.pv).length = 4 := by grind[rowT_len]
    generalize (rowT t).map AV.pv = row at hm hro hrl
    obtain ⟨bs, tk⟩ := s
    simp only [wNew] at *
    have l1 := (List.getElem?_eq_some_iff.1 h1).1
    have l2 := (List.getElem?_eq_some_iff.1 h2).1
    refine st_all (get_last bs Z4) hrl rfl (by decide) (Nat.zero_le _) hro (.inl (Nat.zero_le _)) ?_
    have e : (bs ++ [Z4]).set bs.length row = bs ++ [row] := by simp
    rw [e]
    have g1 := get_push h1 row
    have g2 := get_push h2 row
    refine fad_of (al_of g2) (ld_of g2 rfl (ldk_of (get_last bs row) hrl (wCall_pure hm ?_)))
    intro v hv
    refine bsl_ty hv.toO ⟨by decide, app_ty hb rfl (by grind) ?_⟩
    intro b' tk' hb'
    have hqt : ts.take q ++ [t] = ts.take (q + 1) := by grind[List.take_add_one]
    rw [hqt] at hb'
    refine fad_of (al_of g2) (st_one g2 (by simp) hb'.rowsO.cells (Nat.zero_le _) hb'.rowsO.ok (.inl (Nat.zero_le _)) ?_)
    refine ⟨fad_of (al_of g2) (eqA_ptr _ _), ld_of g2 rfl (ApdT_eqA hb), p139_4 (in_add (by omega) (by omega) ?_)⟩
    have := ihj (q + 1) ⟨(bs ++ [row]).set 2 [I64 k, SS n, I64 i, b'], tk'⟩ b' (by omega) (get_set g1 (by decide)) (get_self g2) hb'
    grind
mutual
theorem clone_spec : ∀ (t : Ty), size t < 2 ^ 38 → ∀ (x : AV), TRep t x → PureC (env R) 139 [x] fun r => TRep t r
  | .mk k n i ts, h, x, hx => by
    obtain ⟨a, rfl, ha⟩ := hx
    simp only [size] at h
    have ih := cloneL_spec ts (by omega)
    refine e139 (u0 := .agg [I64 k, SS n, I64 i, a]) (by simp [ha.close]) (p139_0 ?_)
    refine bx_of rfl (by simp [ha.ok]) (new_of (ldk_of rfl rfl (new_of (st_all (old := Z4) rfl rfl rfl (by decide) (Nat.zero_le _) (by simp [ha.ok]) (.inl (Nat.zero_le _)) ?_))))
    refine fad_of rfl (st_one (off := 3) rfl (Nat.le_refl 4) rfl (Nat.zero_le _) rfl (.inl (Nat.zero_le _)) (fad_of rfl (ld_of rfl rfl (len_of (n := ts.length) (by rw [ha.lenA, rowsT_len]) ?_))))
    exact clone_loop ha (by omega) ih (fun r hr => hr) ts.length 0 _ (.capped []) (by omega) rfl rfl (.inl rfl)
theorem cloneL_spec : ∀ (l : List Ty), sizeL l < 2 ^ 38 → ∀ t ∈ l, PureC (env R) 139 [.agg ((rowT t).map .pv)] fun r => TRep t r
  | [], _, _, h => by cases h
  | e :: l, h, t, hm => by
    simp only [sizeL] at h
    rcases List.mem_cons.1 hm with h' | h'
    · rw [h']
      exact clone_spec e (by omega) _ (TRep.of_row e)
    · exact cloneL_spec l (by omega) t h'
end
end
end Go.Proofs.YtcmeadgdojfhnaaGreatDoor
/-
  Substitute: a variable becomes a placeholder.
-/
namespace Go.Proofs.YtcmeadgdojfhnaaGreatDoor
open Go.Tel
attribute [local simp] wNew wBox wBoxZ markT wCond wBuild fillS wO setCells wSt wLd wPart LFE wFad alive wInt wStr wGK wGd wPick wExt wLen wSlen wNot wNil okI ceI okB ceB okS ceS okL ceL okC ceC okO ceO okP ceP okG ceG okE ceE okR ceR okF ceF okX ceX okM ceM okN ceN okNf ceNf okNi ceNi ceA roL roC roO leL leC leO tpP tpC tpO clP clC clO clF clA clT clN clL nbP nbC nbO nbN nbL toPVs
theorem app_tyG {L : Lim} {s : Sto} {a : AV} {es : List Ty} {t : Ty} {K : AV → Sto → Prop} (ha : Apd L.rt s.ts 33 a (rowsT es)) (hle : L.rt ≤ s.ts.length) (hl : es.length < 2 ^ 38) (h : ∀ a' ts', Apd L.rt ts' 33 a' (rowsT (es ++ [t])) → L.rt ≤ ts'.length → K a' ⟨s.bs, ts'⟩) :
    wApp false L s 33 4 56 a (.capped [rowT t]) K := by
  have hl' : (rowsT es).length = es.length := rowsT_len es
  have htl : (s.ts.take L.rt).length = L.rt := by grind
  have e : s.ts.take L.rt ++ s.ts.drop L.rt = s.ts := List.take_append_drop _ _
  have := wApp_row (L := L) (bs := s.bs) (ts := s.ts.take L.rt) (x := s.ts.drop L.rt) (e := 33) (k := 4) (bytes := 56) (a := a) (rows := rowsT es) (row := rowT t) (K := K) (by grind) (by omega) (fun r hr => rowsT_row hr) (rowT_len t) (by omega) (rowT_ok t) (by omega) (by omega) (by grind[rowsT_append,rowsT])
  simp_all
theorem apd_closed {m : Nat} {ts : List (Nat × Nat)} {k : Nat} {a : AV} {rows : List (List PV)} (h : Apd m ts k a rows) (bs : List (List AV)) (n : Nat) : ∃ a', close bs n m a = some a' ∧ RowsA a' rows := by
  rcases h with rfl | ⟨t, rfl, _, h2⟩
  · simp[*,RowsA.capped]
  · have : ¬ t < m := by omega
    exact ⟨.pv (.list rows), by grind[close], .list _⟩
theorem eqA_rowT (t : Ty) : Tel.eqA (.agg ((rowT t).map .pv)) (.agg ((rowT t).map .pv)) = true := by
  cases t
  grind[rowT,Tel.eqA,eqAL,eqP,eqV_int,eqV_str,eqPLL_rows]
theorem OkS.set {s : Sto} (h : OkS s) {j : Nat} {c : List AV} (hc : idsLtL s.bs.length c = true) (ts : List (Nat × Nat)) : OkS ⟨s.bs.set j c, ts⟩ := by
  intro b hb
  simp only [List.length_set]
  rcases List.mem_or_eq_of_mem_set hb with hb | rfl
  · exact h b hb
  omega
mutual
def vok : Ty → Bool
  | .mk k _ i ts => (!(k == 5) || (ts.isEmpty && decide (-(2 ^ 60) ≤ i) && decide (i < 2 ^ 60))) && vokL ts
def vokL : List Ty → Bool
  | [] => true
  | t :: l => vok t && vokL l
end
section
variable {R : RT}
theorem rep_loop {p : Nat} {cp : List AV} {fn : AV} {ts ls : List Ty} {a : AV} (ha : RowsA a (rowsT ts)) (hl : ts.length < 2 ^ 38) (hll : ls.length = ts.length) {k i : Int} {n : List UInt8} {u : Nat} (hu : u < 2 ^ 60)
    {s0 : Sto} (hs0 : OkS s0) (hp : s0.bs[p]? = some cp)
    (ih : ∀ (q : Nat) (t l : Ty), ts[q]? = some t → ls[q]? = some l → ∀ s, OkS s → s.bs[p]? = some cp → ∃ r, TRep l r ∧ ∀ L, CallE (env R) L 107 [.agg ((rowT t).map .pv), I64 (u + bnd k q : Nat), fn] s r s)
    {i' : Int} {Post : AV → Prop} (hP : ∀ r, TRep (.mk k n i' ls) r → Post r) :
    ∀ (j q : Nat) (s : Sto) (b : AV), q + j = ts.length → OkS s → s.bs[p]? = some cp → s.bs[s0.bs.length]? = some [I64 k, SS n, I64 i, a] → s.bs[s0.bs.length + 1]? = some Z4 → s.bs[s0.bs.length + 2]? = some [I64 k, SS n, I64 i', b] →
      Apd s0.ts.length s.ts 33 b (rowsT (ls.take q)) → s0.ts.length ≤ s.ts.length →
      P107_3 R s0.bs.length s0.bs.length s0.ts.length (I64 u) fn (.ptr s0.bs.length 0) (.ptr (s0.bs.length + 1) 0) (.ptr (s0.bs.length + 2) 0) a (I64 ts.length) (I64 q) s (QI s0.bs.length s0.ts.length Post) := by
  intro j
  induction j with
  | zero =>
    intro q s b hi hs h0 h1 h2 h3 hb hle
    refine p107_3 (in_lss ?_)
    rw [decide_eq_false (by omega)]
    refine co_f (p107_5 (ldk_of h3 rfl (st_all h2 rfl rfl (by decide) (by simp) (by simp [hb.rowsO.ok]) (.inl (by simp)) (ldk_of (get_self h2) rfl ?_))))
    rw [List.take_of_length_le (by omega)] at hb
    obtain ⟨b', c1, c2⟩ := apd_closed hb (s.bs.set (s0.bs.length + 1) [I64 k, SS n, I64 i', b]) s0.bs.length
    exact ⟨.agg [I64 k, SS n, I64 i', b'], by simp [c1], hP _ ⟨b', rfl, c2⟩⟩
  | succ j ihj =>
    intro q s b hi hs h0 h1 h2 h3 hb hle
    refine p107_3 (in_lss ?_)
    rw [decide_eq_true (by omega)]
    obtain ⟨t, ht⟩ : ∃ t, ts[q]? = some t := ⟨_, List.getElem?_eq_getElem (by omega)⟩
    obtain ⟨l, hlq⟩ : ∃ l, ls[q]? = some l := ⟨_, List.getElem?_eq_getElem (by omega)⟩
    have hrl : ((rowT t).map AV.pv).length = 4 := by grind[rowT_len]
    have hro := rowT_ok t
    have hri : idsLtL (s.bs.length + 1) ((rowT t).map AV.pv) = true := by
      obtain ⟨k1, n1, i1, t1⟩ := t
      rfl
    refine co_t (p107_4 (wIdx_rows ha (row := rowT t) (by omega) (by simp[*,rowsT_get]) (rowT_len _) (by omega) (ld_row (new_of ?_))))
    have ih' := ih q t l ht hlq
    have hself := eqA_rowT t
    generalize (rowT t).map AV.pv = row at hrl hro hri ih' hself
    obtain ⟨bs, tk⟩ := s
    have l3 := (List.getElem?_eq_some_iff.1 h3).1
    simp only at *
    refine st_all (get_last bs Z4) hrl rfl (by decide) (by simp [LFE]; omega) hro (.inl (by simp [LFE]; omega)) ?_
    have e : (bs ++ [Z4]).set bs.length row = bs ++ [row] := by simp
    rw [e]
    have g0 := get_push h0 row
    have g1 := get_push h1 row
    have g2 := get_push h2 row
    have g3 := get_push h3 row
    have hs' : OkS ⟨bs ++ [row], tk⟩ := OkS.app (s := ⟨bs, tk⟩) hs hri
    have hbn := bnd_le k q
    have hbs : PureC (env R) 105 [.agg [I64 k, SS n, I64 i, a], I64 q] fun r => r = I64 (bnd k q) := binders_spec ha q
    obtain ⟨r, hr1, hr2⟩ := ih' ⟨bs ++ [row], tk⟩ hs' g0
    refine fad_of (al_of g3) (ld_of g3 rfl (ldk_of (get_last bs row) hrl (ldk_of g1 rfl (wCall_pure hbs ?_))))
    rintro _ rfl
    refine in_add (by omega) (by omega) ?_
    have e1 : ((u : Int) + (bnd k q : Nat)) = ((u + bnd k q : Nat) : Int) := by omega
    rw [e1]
    refine ⟨r, _, hr2 _, bsl_ty hr1.toO ⟨by decide, app_tyG hb hle (by grind) ?_⟩⟩
    intro b' tk' hb' hle'
    have er : ls.take q ++ [l] = ls.take (q + 1) := by grind[List.take_add_one]
    rw [er] at hb'
    refine fad_of (al_of g3) (st_one g3 (by simp) hb'.rowsO.cells (by simp) hb'.rowsO.ok (.inl (by simp)) ?_)
    refine ⟨fad_of (al_of g3) (eqA_ptr _ _), fad_of (al_of g3) (eqA_ptr _ _), ld_of g3 rfl (ApdT_eqA hb), ld_of g3 rfl (ApdT_eqA hb), ldk_of (get_last bs row) hrl hself, p107_6 (in_add (by omega) (by omega) ?_)⟩
    have lp := (List.getElem?_eq_some_iff.1 hp).1
    have := ihj (q + 1) ⟨(bs ++ [row]).set (s0.bs.length + 2) [I64 k, SS n, I64 i', b'], tk'⟩ b' (by omega) ?_ ?_ (get_set g1 (by omega)) (get_set g2 (by omega)) (get_self g3) hb' hle'
    · grind
    · exact OkS.set (s := ⟨bs ++ [row], tk⟩) hs' (by simp [idsLtL, idsLt, hb'.rowsO.idsLt]) _
    grind[get_set]
end
end Go.Proofs.YtcmeadgdojfhnaaGreatDoor
/-
  Substitute: the whole term.
-/
namespace Go.Proofs.YtcmeadgdojfhnaaGreatDoor
open Go.Tel
attribute [local simp] wNew wBox wBoxZ markT wCond wBuild fillS wO setCells wSt wLd wPart LFE wFad alive wInt wStr wGK wGd wPick wExt wLen wSlen wNot wNil okI ceI okB ceB okS ceS okL ceL okC ceC okO ceO okP ceP okG ceG okE ceE okR ceR okF ceF okX ceX okM ceM okN ceN okNf ceNf okNi ceNi ceA roL roC roO leL leC leO tpP tpC tpO clP clC clO clF clA clT clN clL nbP nbC nbO nbN nbL toPVs
section
variable {R : RT}
theorem nep_nil {s : Sto} {m : Option Nat} {K : AV → Prop} (h : K (BB false)) : wNeP s (nilV (.pv (.sc (.pointer none)))) m .neq (.pv (.sc (.pointer none))) (.pv (.sc (.pointer none))) K := by assumption
def rep3 (s : Sto) (c d : List AV) : Sto := ⟨s.bs ++ [c] ++ [Z4] ++ [d], s.ts⟩
theorem rep3_get {s : Sto} {c d : List AV} : (rep3 s c d).bs[s.bs.length]? = some c ∧ (rep3 s c d).bs[s.bs.length + 1]? = some Z4 ∧ (rep3 s c d).bs[s.bs.length + 2]? = some d := by simp[*,rep3]
theorem rep3_old {s : Sto} {c d : List AV} {p : Nat} {x : List AV} (h : s.bs[p]? = some x) : (rep3 s c d).bs[p]? = some x := get_push (get_push (get_push h _) _) _
theorem rep3_ok {s : Sto} (hs : OkS s) {c d : List AV} (hc : idsLtL 0 c = true) (hd : idsLtL 0 d = true) : OkS (rep3 s c d) := by
  intro b hb
  simp only [rep3, List.mem_append, List.mem_singleton] at hb
  rcases hb with ((hb | rfl) | rfl) | rfl
  · exact idsLtL_mono (by simp [rep3]) b (hs b hb)
  · exact idsLtL_mono (by simp) _ hc
  · rfl
  · exact idsLtL_mono (by simp) _ hd
theorem rep_start {s : Sto} {u : Nat} {fn : AV} (hfn : close [] 0 0 fn = none) {k' i' : Int} {n' : List UInt8} {a : AV} {rows : List (List PV)} {Post : AV → Prop} (ha : RowsA a rows)
    (hh : wCond (BB (k' == 5)) (
      wFad (rep3 s [I64 k', SS n', I64 i', a] [I64 k', SS n', I64 i', .capped []]) (.ptr s.bs.length 0) 2 fun a19 =>
      wLd (env R) (rep3 s [I64 k', SS n', I64 i', a] [I64 k', SS n', I64 i', .capped []]) none a19 fun a20 =>
      wCall (env R) (LFE (env R) 107 s.bs.length s.bs.length s.ts.length) (fn) [a20, I64 u] (rep3 s [I64 k', SS n', I64 i', a] [I64 k', SS n', I64 i', .capped []]) fun a22 s1x5 =>
      wExt a22 0 fun a23 =>
      wExt a22 1 fun a24 =>
      wNeP s1x5 (nilV a23) (some 0) .neq a23 (.pv (.sc (.pointer none))) fun a26 =>
      wCond a26 (
      wNil s1x5 a23 fun a28 =>
      wLd (env R) s1x5 (some 4) a28 fun a29 =>
      wCall (env R) (LFE (env R) 107 s.bs.length s.bs.length s.ts.length) (.func (.func 139) [] []) [a29] s1x5 fun a30 s1x6 =>
      wSt (LFE (env R) 107 s.bs.length s.bs.length s.ts.length) s1x6 4 (.ptr (s.bs.length + 1) 0) a30 fun s1x7 =>
      wLd (env R) s1x7 (some 4) (.ptr (s.bs.length + 1) 0) fun r =>
      QI s.bs.length s.ts.length Post r s1x7) (
      P107_1 R s.bs.length s.bs.length s.ts.length (I64 u) (fn) (.ptr s.bs.length 0) (.ptr (s.bs.length + 1) 0) (.ptr (s.bs.length + 2) 0) a24 s1x5 (QI s.bs.length s.ts.length Post))) (
      P107_2 R s.bs.length s.bs.length s.ts.length (I64 u) (fn) (.ptr s.bs.length 0) (.ptr (s.bs.length + 1) 0) (.ptr (s.bs.length + 2) 0) (rep3 s [I64 k', SS n', I64 i', a] [I64 k', SS n', I64 i', .capped []]) (QI s.bs.length s.ts.length Post))) :
    ∃ r, Post r ∧ ∀ L, CallE (env R) L 107 [.agg [I64 k', SS n', I64 i', a], I64 u, fn] s r s := by
  refine i107 (by simp[*]) (p107_0 ?_)
  refine bx_of (cs := [I64 k', SS n', I64 i', a]) rfl (by simp [ha.ok]) (new_of ?_)
  refine ldk_of (cs := [I64 k', SS n', I64 i', a]) (get_push (get_last _ _) _) rfl (new_of ?_)
  refine st_all (old := Z4) (get_last _ _) rfl rfl (by decide) (by simp) (by simp [ha.ok]) (.inl (by simp)) ?_
  have e : ((s.bs ++ [[I64 k', SS n', I64 i', a]] ++ [Z4] ++ [Z4]).set (s.bs ++ [[I64 k', SS n', I64 i', a]] ++ [Z4]).length [I64 k', SS n', I64 i', a]) = (rep3 s [I64 k', SS n', I64 i', a] [I64 k', SS n', I64 i', a]).bs := by grind[rep3]
  have l1 : (s.bs ++ [[I64 k', SS n', I64 i', a]] ++ [Z4]).length = s.bs.length + 2 := by simp
  have l2 : (s.bs ++ [[I64 k', SS n', I64 i', a]]).length = s.bs.length + 1 := by simp
  simp only at e l1 l2 ⊢
  rw [e]
  simp only [l1, l2]
  obtain ⟨g0, g1, g2⟩ := rep3_get (s := s) (c := [I64 k', SS n', I64 i', a]) (d := [I64 k', SS n', I64 i', a])
  refine fad_of (al_of g2) (st_one (off := 3) g2 (Nat.le_refl 4) rfl (by simp) rfl (.inl (by simp)) ?_)
  have e2 : (rep3 s [I64 k', SS n', I64 i', a] [I64 k', SS n', I64 i', a]).bs.set (s.bs.length + 2) ([I64 k', SS n', I64 i', a].set 3 (.capped [])) = (rep3 s [I64 k', SS n', I64 i', a] [I64 k', SS n', I64 i', .capped []]).bs := by simp[*,rep3]
  show wFad ⟨(rep3 s [I64 k', SS n', I64 i', a] [I64 k', SS n', I64 i', a]).bs.set (s.bs.length + 2) ([I64 k', SS n', I64 i', a].set 3 (.capped [])), s.ts⟩ _ _ _
  rw [e2]
  obtain ⟨g0, g1, g2⟩ := rep3_get (s := s) (c := [I64 k', SS n', I64 i', a]) (d := [I64 k', SS n', I64 i', .capped []])
  exact fad_of (al_of g0) (ld_of g0 rfl (in_eql hh))
theorem rep_args {s : Sto} {p : Nat} {cp : List AV} {fn : AV} {ts ls : List Ty} {a : AV} (ha : RowsA a (rowsT ts)) (hl : ts.length < 2 ^ 38) (hll : ls.length = ts.length) {k i0 i' : Int} {n : List UInt8} {u : Nat} (hu : u < 2 ^ 60) (hs : OkS s) (hp : s.bs[p]? = some cp)
    (ih : ∀ (q : Nat) (t l : Ty), ts[q]? = some t → ls[q]? = some l → ∀ s, OkS s → s.bs[p]? = some cp → ∃ r, TRep l r ∧ ∀ L, CallE (env R) L 107 [.agg ((rowT t).map .pv), I64 (u + bnd k q : Nat), fn] s r s)
    {Post : AV → Prop} (hP : ∀ r, TRep (.mk k n i' ls) r → Post r) :
    P107_2 R s.bs.length s.bs.length s.ts.length (I64 u) fn (.ptr s.bs.length 0) (.ptr (s.bs.length + 1) 0) (.ptr (s.bs.length + 2) 0) (rep3 s [I64 k, SS n, I64 i0, a] [I64 k, SS n, I64 i', .capped []]) (QI s.bs.length s.ts.length Post) := by
  obtain ⟨g0, g1, g2⟩ := rep3_get (s := s) (c := [I64 k, SS n, I64 i0, a]) (d := [I64 k, SS n, I64 i', .capped []])
  exact p107_2 (fad_of (al_of g0) (ld_of g0 rfl (len_of (n := ts.length) (by rw [ha.lenA, rowsT_len]) (rep_loop ha hl hll hu hs hp ih hP ts.length 0 _ (.capped []) (by omega) (rep3_ok hs (by simp [idsLtL, idsLt, ha.idsLt]) (by rfl)) (rep3_old hp) g0 g1 g2 (.inl rfl) (Nat.le_refl _)))))
theorem rep_ix {s : Sto} {fn : AV} {u : Nat} {n : List UInt8} {i i' : Int} {a : AV} (ha : RowsA a []) (hu : u < 2 ^ 60) (hs : OkS s) {p : Nat} {cp : List AV} (hp : s.bs[p]? = some cp) {Post : AV → Prop} (hP : ∀ r, TRep (.mk 5 n i' []) r → Post r) :
    P107_1 R s.bs.length s.bs.length s.ts.length (I64 u) fn (.ptr s.bs.length 0) (.ptr (s.bs.length + 1) 0) (.ptr (s.bs.length + 2) 0) (I64 i') (rep3 s [I64 5, SS n, I64 i, a] [I64 5, SS n, I64 i, .capped []]) (QI s.bs.length s.ts.length Post) := by
  obtain ⟨g0, g1, g2⟩ := rep3_get (s := s) (c := [I64 5, SS n, I64 i, a]) (d := [I64 5, SS n, I64 i, .capped []])
  refine p107_1 (fad_of (al_of g2) (st_one g2 (by simp) rfl (by simp) rfl (.inl (by simp)) ?_))
  have e3 : (rep3 s [I64 5, SS n, I64 i, a] [I64 5, SS n, I64 i, .capped []]).bs.set (s.bs.length + 2) ([I64 5, SS n, I64 i, .capped []].set 2 (I64 i')) = (rep3 s [I64 5, SS n, I64 i, a] [I64 5, SS n, I64 i', .capped []]).bs := by simp[*,rep3]
  show P107_2 R _ _ _ _ _ _ _ _ ⟨(rep3 s [I64 5, SS n, I64 i, a] [I64 5, SS n, I64 i, .capped []]).bs.set (s.bs.length + 2) ([I64 5, SS n, I64 i, .capped []].set 2 (I64 i')), s.ts⟩ _
  rw [e3]
  exact rep_args (ts := []) (ls := []) ha (by simp) rfl hu hs hp (by simp) hP
end
end Go.Proofs.YtcmeadgdojfhnaaGreatDoor
/-
  Instantiate, cloneTerm.
-/
namespace Go.Proofs.YtcmeadgdojfhnaaGreatDoor
open Go.Tel
attribute [local simp] wNew wBox wBoxZ markT wCond wBuild fillS wO setCells wSt wLd wPart LFE wFad alive wInt wStr wGK wGd wPick wExt wLen wSlen wNot wNil okI ceI okB ceB okS ceS okL ceL okC ceC okO ceO okP ceP okG ceG okE ceE okR ceR okF ceF okX ceX okM ceM okN ceN okNf ceNf okNi ceNi ceA roL roC roO leL leC leO tpP tpC tpO clP clC clO clF clA clT clN clL nbP nbC nbO nbN nbL toPVs
mutual
def instT (es : List Ty) (u : Nat) : Ty → Ty
  | .mk k n i ts => bif k == 5 then (bif decide ((u : Int) ≤ i) then (es[(i - u).toNat]?).getD (.mk 5 n i []) else .mk 5 n i []) else .mk k n i (instL es u k 0 ts)
def instL (es : List Ty) (u : Nat) (k : Int) (j : Nat) : List Ty → List Ty
  | [] => []
  | t :: l => instT es (u + bnd k j) t :: instL es u k (j + 1) l
end
theorem instL_at {es : List Ty} {u : Nat} {k : Int} : ∀ (ts : List Ty) (b q : Nat) (l : Ty), (instL es u k b ts)[q]? = some l → ∃ t, ts[q]? = some t ∧ l = instT es (u + bnd k (b + q)) t
  | [], _, _, _, h => by simp [instL] at h
  | t :: ts, b, 0, l, h => by
    simp only [instL, List.getElem?_cons_zero, Option.some.injEq] at h
    exact ⟨t, rfl, h.symm⟩
  | t :: ts, b, q + 1, l, h => by
    simp only [instL, List.getElem?_cons_succ] at h ⊢
    obtain ⟨t', h1, h2⟩ := instL_at ts (b + 1) q l h
    exact ⟨t', h1, by rw [h2]; congr 2; congr 1; omega⟩
theorem instL_len {es : List Ty} {u : Nat} {k : Int} : ∀ (ts : List Ty) (b : Nat), (instL es u k b ts).length = ts.length
  | [], _ => rfl
  | t :: ts, b => by simp [instL, instL_len ts (b + 1)]
mutual
theorem instT_nil : ∀ (t : Ty) (u : Nat), vok t = true → instT [] u t = t
  | .mk k n i ts, u, h => by
    rw [vok] at h
    rw [instT]
    cases hk : (k == 5) with
    | true =>
      have : k = 5 := by simpa using hk
      subst this
      simp at h
      have := h.1.1.1
      subst this
      simp
    | false =>
      simp only [Bool.and_eq_true] at h
      rw [cond_false, instL_nil ts u k 0 h.2]
theorem instL_nil : ∀ (l : List Ty) (u : Nat) (k : Int) (j : Nat), vokL l = true → instL [] u k j l = l
  | [], _, _, _, _ => rfl
  | t :: l, u, k, j, h => by
    simp only [vokL, Bool.and_eq_true] at h
    rw [instL, instT_nil t _ h.1, instL_nil l u k _ h.2]
end
section
variable {R : RT}
abbrev insC (p : Nat) : AV := .func (.func 128) [] [.ptr p 0]
theorem QM_two {rr : Bool} {s : Sto} (hs : OkS s) {x y : AV} (hcl : closeL s.bs s.bs.length s.ts.length [x, y] = some [x, y]) : QM rr s.bs.length (fun v s' => v = .tuple [x, y] ∧ s' = s) (.tuple [x, y]) s := by
  have e : s.bs.take s.bs.length = s.bs := List.take_length
  refine QM_tuple (ds := [x, y]) ?_ hcl ?_
  · rw [e, List.all_eq_true]
    exact hs
  · simp
theorem ins_none (i u : Int) (h0 : -(2 ^ 60) ≤ i) (h1 : i < 2 ^ 60) (h2 : 0 ≤ u) (h3 : u < 2 ^ 60) (p : Nat) {s : Sto} (hs : OkS s) {a : AV} {es : List Ty} (ha : RowsA a (rowsT es)) (hp : s.bs[p]? = some [a]) (hn : u ≤ i → (es.length : Int) ≤ i - u) (L : Lim) :
    CallE (env R) L 128 [I64 i, I64 u, .ptr p 0] s (.tuple [.pv (.sc (.pointer none)), I64 i]) s := by
  obtain ⟨v, s', ⟨rfl, rfl⟩, hc⟩ := m128 (R := R) (L := L) (s := s) (t0 := I64 i) (t1 := I64 u) (t2 := .ptr p 0) (Post := fun v s' => v = .tuple [.pv (.sc (.pointer none)), I64 i] ∧ s' = s) (by rfl) (p128_0 (in_sub (by omega) (by omega) (in_geq (by
    by_cases h : i ≥ u
    · rw [decide_eq_true h]
      refine gk_t (gk_t (ld_of hp rfl (gk_t (len_of (n := es.length) (by rw [ha.lenA, rowsT_len]) (gk_t (in_lss (pk ?_)))))))
      have := hn h
      rw [decide_eq_false (by omega)]
      exact co_f (p128_1 (QM_two hs (by simp [closeL, close])))
    · rw [decide_eq_false h]
      exact gk_ft (gk_ft (gk_ft (gk_ft (pk (co_f (p128_1 (QM_two hs (by simp [closeL, close]))))))))))))
  exact hc
theorem ins_some (i u : Int) (h0 : -(2 ^ 60) ≤ i) (h1 : i < 2 ^ 60) (h2 : 0 ≤ u) (h3 : u < 2 ^ 60) (p : Nat) {s : Sto} (hs : OkS s) {a : AV} {es : List Ty} (ha : RowsA a (rowsT es)) (hp : s.bs[p]? = some [a]) (hn : u ≤ i) {e : Ty} (he : es[(i - u).toNat]? = some e) (L : Lim) :
    CallE (env R) L 128 [I64 i, I64 u, .ptr p 0] s (.tuple [.eptr (rowT e) 0, I64 0]) s := by
  have hlt := (List.getElem?_eq_some_iff.1 he).1
  obtain ⟨v, s', ⟨rfl, rfl⟩, hc⟩ := m128 (R := R) (L := L) (s := s) (t0 := I64 i) (t1 := I64 u) (t2 := .ptr p 0) (Post := fun v s' => v = .tuple [.eptr (rowT e) 0, I64 0] ∧ s' = s) (by rfl) (p128_0 (in_sub (by omega) (by omega) (in_geq (by
    rw [decide_eq_true (by omega)]
    refine gk_t (gk_t (ld_of hp rfl (gk_t (len_of (n := es.length) (by rw [ha.lenA, rowsT_len]) (gk_t (in_lss (pk ?_)))))))
    rw [decide_eq_true (by omega)]
    refine co_t (ld_of hp rfl (wIdx_rows ha (row := rowT e) (by omega) (by simpa using rowsT_get he) (rowT_len _) (by omega) ?_))
    exact QM_two hs (by simp [closeL, close])))))
  exact hc
theorem nep_eptr {s : Sto} {r : List PV} {o : Nat} {K : AV → Prop} (h : K (BB true)) : wNeP s none (some 0) .neq (.eptr r o) (.pv (.sc (.pointer none))) K := by
  simp only [wNeP, isNilP, Bool.false_and]
  refine ⟨?_, h⟩
  simp [sameKind, someKind]
mutual
theorem repI_spec {p : Nat} {a : AV} {es : List Ty} (ha : RowsA a (rowsT es)) (he : ∀ e ∈ es, size e < 2 ^ 38) : ∀ (t : Ty), size t < 2 ^ 38 → vok t = true → ∀ (u : Nat), u + size t < 2 ^ 60 → ∀ (x : AV), TRep t x → ∀ (s : Sto), OkS s → s.bs[p]? = some [a] →
    ∃ r, TRep (instT es u t) r ∧ ∀ L, CallE (env R) L 107 [x, I64 u, insC p] s r s
  | .mk k n i ts, h, hvk, u, hu, x, hx, s, hs, hp => by
    simp only [size] at hu h
    rw [vok] at hvk
    obtain ⟨b, rfl, hb⟩ := hx
    by_cases h5 : k = 5
    · subst h5
      simp only [beq_self_eq_true, Bool.not_true, Bool.false_or, Bool.and_eq_true, List.isEmpty_iff, decide_eq_true_eq] at hvk
      have hts := hvk.1.1.1
      subst hts
      rw [instT]
      simp only [beq_self_eq_true, cond_true]
      refine rep_start rfl hb (co_t ?_)
      obtain ⟨g0, g1, g2⟩ := rep3_get (s := s) (c := [I64 5, SS n, I64 i, b]) (d := [I64 5, SS n, I64 i, .capped []])
      have hok : OkS (rep3 s [I64 5, SS n, I64 i, b] [I64 5, SS n, I64 i, .capped []]) := rep3_ok hs (by simp [idsLtL, idsLt, hb.idsLt]) (by rfl)
      have gp := rep3_old (c := [I64 5, SS n, I64 i, b]) (d := [I64 5, SS n, I64 i, .capped []]) hp
      refine fad_of (al_of g0) (ld_of g0 rfl ?_)
      have none_ : ∀ r, (u ≤ i → (es.length : Int) ≤ i - u) → r = Ty.mk 5 n i [] → wCall (env R) (LFE (env R) 107 s.bs.length s.bs.length s.ts.length) (insC p) [I64 i, I64 u] (rep3 s [I64 5, SS n, I64 i, b] [I64 5, SS n, I64 i, .capped []]) fun a22 s1x5 =>
          wExt a22 0 fun a23 => wExt a22 1 fun a24 => wNeP s1x5 (nilV a23) (some 0) .neq a23 (.pv (.sc (.pointer none))) fun a26 => wCond a26 (wNil s1x5 a23 fun a28 => wLd (env R) s1x5 (some 4) a28 fun a29 =>
          wCall (env R) (LFE (env R) 107 s.bs.length s.bs.length s.ts.length) (.func (.func 139) [] []) [a29] s1x5 fun a30 s1x6 => wSt (LFE (env R) 107 s.bs.length s.bs.length s.ts.length) s1x6 4 (.ptr (s.bs.length + 1) 0) a30 fun s1x7 => wLd (env R) s1x7 (some 4) (.ptr (s.bs.length + 1) 0) fun rr => QI s.bs.length s.ts.length (fun v => TRep r v) rr s1x7) (
          P107_1 R s.bs.length s.bs.length s.ts.length (I64 u) (insC p) (.ptr s.bs.length 0) (.ptr (s.bs.length + 1) 0) (.ptr (s.bs.length + 2) 0) a24 s1x5 (QI s.bs.length s.ts.length (fun v => TRep r v))) := by
        rintro r hn rfl
        exact ⟨_, _, ins_none i u hvk.1.1.2 hvk.1.2 (by omega) (by omega) p hok ha gp hn _, ex_of rfl (ex_of rfl (nep_nil (co_f (rep_ix hb (by omega) hs hp fun r hr => hr))))⟩
      by_cases hui : (u : Int) ≤ i
      · rw [decide_eq_true hui, cond_true]
        cases hes : es[(i - u).toNat]? with
        | none =>
          have := List.getElem?_eq_none_iff.1 hes
          exact none_ _ (fun _ => by omega) rfl
        | some e =>
          rw [Option.getD_some]
          refine ⟨_, _, ins_some i u hvk.1.1.2 hvk.1.2 (by omega) (by omega) p hok ha gp hui hes _, ex_of rfl (ex_of rfl (nep_eptr (co_t ?_)))⟩
          simp only [wNil]
          refine ld_row (wCall_pure (clone_spec (R := R) e (he e (List.mem_of_getElem? hes)) _ (TRep.of_row e)) ?_)
          rintro w hw
          obtain ⟨k1, n1, i1, t1⟩ := e
          obtain ⟨c, rfl, hc⟩ := hw
          refine st_all g1 rfl rfl (by decide) (by simp [LFE]) (by simp [hc.ok]) (.inl (by simp [LFE])) (ldk_of (get_self g1) rfl ?_)
          exact ⟨.agg [I64 k1, SS n1, I64 i1, c], by simp [hc.close], ⟨c, rfl, hc⟩⟩
      · rw [decide_eq_false hui, cond_false]
        exact none_ _ (fun h => absurd h hui) rfl
    · have b5 : (k == 5) = false := by simpa using h5
      rw [instT, b5, cond_false]
      refine rep_start rfl hb ?_
      rw [b5]
      simp only [Bool.and_eq_true] at hvk
      have h60 := sizeL_len ts
      refine co_f (rep_args hb (by omega) (instL_len ts 0) (by omega) hs hp ?_ fun r hr => hr)
      intro q t l hq hlq s' hs' hp'
      obtain ⟨t', ht', rfl⟩ := instL_at ts 0 q l hlq
      rw [hq] at ht'
      cases ht'
      have hbn := bnd_le k q
      rw [Nat.zero_add]
      exact repIL_spec ha he ts (by omega) hvk.2 (u + bnd k q) (by omega) t (List.mem_of_getElem? hq) s' hs' hp'
theorem repIL_spec {p : Nat} {a : AV} {es : List Ty} (ha : RowsA a (rowsT es)) (he : ∀ e ∈ es, size e < 2 ^ 38) : ∀ (l : List Ty), sizeL l < 2 ^ 38 → vokL l = true → ∀ (u : Nat), u + sizeL l < 2 ^ 60 → ∀ t ∈ l, ∀ (s : Sto), OkS s → s.bs[p]? = some [a] →
    ∃ r, TRep (instT es u t) r ∧ ∀ L, CallE (env R) L 107 [.agg ((rowT t).map .pv), I64 u, insC p] s r s
  | [], _, _, _, _, _, h => by cases h
  | e :: l, h, hvk, u, hu, t, hm => by
    simp only [sizeL] at hu h
    simp only [vokL, Bool.and_eq_true] at hvk
    rcases List.mem_cons.1 hm with h' | h'
    · rw [h']
      exact repI_spec ha he e (by omega) hvk.1 u (by omega) _ (TRep.of_row _)
    · exact repIL_spec ha he l (by omega) hvk.2 u (by omega) t h'
end
theorem inst_spec {t : Ty} (h : size t < 2 ^ 38) (hv : vok t = true) {x a : AV} {es : List Ty} (ha : RowsA a (rowsT es)) (he : ∀ e ∈ es, size e < 2 ^ 38) (hx : TRep t x) : PureC (env R) 95 [x, a] fun r => TRep (instT es 0 t) r := by
  have hr := repI_spec (R := R) (p := 1) ha he t h hv 0 (by omega) x hx
  obtain ⟨k, n, i, ts⟩ := t
  obtain ⟨b, rfl, hb⟩ := hx
  refine e95 (u0 := .agg [I64 k, SS n, I64 i, b]) (u1 := a) (by simp [hb.close, ha.close, closeL]) (p95_0 ?_)
  refine bx_of (cs := [I64 k, SS n, I64 i, b]) rfl (by simp [hb.ok]) (bx_of (cs := [a]) ha.cells (by simp [ha.ok]) (new_of (ldk_of (cs := [I64 k, SS n, I64 i, b]) rfl rfl ?_)))
  have hs : OkS ⟨[[I64 k, SS n, I64 i, b], [a], Z4], []⟩ := by
    intro c hc
    simp only [List.mem_cons, List.not_mem_nil, or_false] at hc
    rcases hc with rfl | rfl | rfl <;> simp [idsLtL, idsLt, hb.idsLt, ha.idsLt]
  obtain ⟨r, h1, h2⟩ := hr ⟨[[I64 k, SS n, I64 i, b], [a], Z4], []⟩ hs rfl
  refine ⟨r, _, h2 _, ?_⟩
  generalize instT es 0 (.mk k n i ts) = t' at h1
  obtain ⟨k1, n1, i1, t1⟩ := t'
  obtain ⟨c, rfl, hc⟩ := h1
  refine st_all (old := Z4) (id := 2) rfl rfl rfl (by decide) (Nat.zero_le _) (by simp [hc.ok]) (.inl (Nat.zero_le _)) (ldk_of (cs := [I64 k1, SS n1, I64 i1, c]) rfl rfl ?_)
  exact ⟨.agg [I64 k1, SS n1, I64 i1, c], by simp [hc.close], ⟨c, rfl, hc⟩⟩
theorem cloneT_spec {t : Ty} (h : size t < 2 ^ 38) (hv : vok t = true) {x : AV} (hx : TRep t x) : PureC (env R) 61 [x] fun r => TRep t r := by
  have hi := inst_spec (R := R) h hv (a := .capped []) (es := []) (.capped _) (by simp) hx
  rw [instT_nil t 0 hv] at hi
  obtain ⟨k, n, i, ts⟩ := t
  obtain ⟨a, rfl, ha⟩ := hx
  refine e61 (u0 := .agg [I64 k, SS n, I64 i, a]) (by simp [ha.close]) (p61_0 ?_)
  refine bx_of (cs := [I64 k, SS n, I64 i, a]) rfl (by simp [ha.ok]) (new_of (ldk_of (cs := [I64 k, SS n, I64 i, a]) rfl rfl (wCall_pure hi ?_)))
  rintro r ⟨b, rfl, hb⟩
  refine st_all (old := Z4) (id := 1) rfl rfl rfl (by decide) (Nat.zero_le _) (by simp [hb.ok]) (.inl (Nat.zero_le _)) (ldk_of (cs := [I64 k, SS n, I64 i, b]) rfl rfl ?_)
  exact ⟨.agg [I64 k, SS n, I64 i, b], by simp [hb.close], ⟨b, rfl, hb⟩⟩
end
end Go.Proofs.YtcmeadgdojfhnaaGreatDoor
/-
  Free variables, the program: slices.BinarySearch in a sorted slice of integers.
-/
namespace Go.Proofs.YtcmeadgdojfhnaaGreatDoor
open Go.Tel
attribute [local simp] wNew wBox wBoxZ markT wCond wBuild fillS wO setCells wSt wLd wPart LFE wFad alive wInt wStr wGK wGd wPick wExt wLen wSlen wNot wNil okI ceI okB ceB okS ceS okL ceL okC ceC okO ceO okP ceP okG ceG okE ceE okR ceR okF ceF okX ceX okM ceM okN ceN okNf ceNf okNi ceNi ceA roL roC roO leL leC leO tpP tpC tpO clP clC clO clF clA clT clN clL nbP nbC nbO nbN nbL toPVs
theorem CallE.of_told {E : Env} {L : Lim} {f : FuncId} {args : List AV} {s s' : Sto} {v : AV} {T : Lim → List AV → Sto → Option (AV × Sto)} {fn : Func} (hfn : E.P.funcs[f]? = some fn) (hc : E.clone f = true) (ht : E.told f = some T) (h : T L args s = some (v, s')) : CallE E L f args s v s' := by
  refine ⟨1, fun m hm => ?_⟩
  obtain ⟨m, rfl⟩ : ∃ m', m = m' + 1 := ⟨m - 1, by omega⟩
  grind[callN,toldA]
theorem sorted_at {l : List Int} (hs : l.Pairwise (· < ·)) {h : Nat} {u : Int} (hu : l[h]? = some u) : (∀ x ∈ l.take (h + 1), x ≤ u) ∧ (∀ x ∈ l.drop h, u ≤ x) ∧ (∀ x ∈ l.drop (h + 1), u < x) := by
  have e : l = l.take h ++ u :: l.drop (h + 1) := by grind[drop_cons,List.take_append_drop]
  have hp := hs
  rw [e, List.pairwise_append] at hp
  obtain ⟨h1, h2, h3⟩ := hp
  have h4 := (List.pairwise_cons.1 h2).1
  refine ⟨fun x hx => ?_, fun x hx => ?_, h4⟩
  all_goals grind
section
variable {R : RT}
theorem cnan_spec (w : Int) : PureC (env R) 157 [I64 w] fun r => r = BB false :=
  e157 (u0 := I64 w) (by simp) (p157_0 (in_neq ⟨_, clP, by simp⟩))
theorem snan_spec (w : Int) : PureC (env R) 166 [I64 w] fun r => r = BB false :=
  e166 (u0 := I64 w) (by simp) (p166_0 (in_neq ⟨_, clP, by simp⟩))
theorem less_spec (a b : Int) : PureC (env R) 165 [I64 a, I64 b] fun r => r = BB (decide (a < b)) := by
  refine e165 (u0 := I64 a) (u1 := I64 b) (by simp) (p165_0 ?_)
  refine wCall_pure (cnan_spec a) ?_
  rintro v rfl
  exact gk_ft (gk_ft (gk_ft (pk (gk_t (gk_t (gk_t (in_lss (pk ⟨_, clP, rfl⟩))))))))
def WRep (bs : List (List AV)) (l : List Int) (x : AV) : Prop := (x = .capped [] ∧ l = []) ∨ ∃ id, x = .ref id 0 l.length 1 ∧ bs[id]? = some (l.map fun n => I64 n) ∧ l ≠ []
theorem alive_ints {s : Sto} {id : Nat} {l : List Int} (hid : s.bs[id]? = some (l.map fun n => I64 n)) (hne : l ≠ []) : alive s id = true := by
  obtain ⟨c, r, hc⟩ : ∃ c r, l = c :: r := by
    cases l with
    | nil => grind
    | cons c r => simp
  simp[*]
theorem gk_u {want : Bool} {s : Sto} {W : (AV → Sto → Prop) → Prop} {K : AV → Sto → Prop} (h : K (.tuple []) s) : wGK (.tuple []) want s W K := h
theorem idx_ref {s : Sto} {id i : Nat} {l : List Int} {w : Int} (hid : s.bs[id]? = some (l.map fun n => I64 n)) (hne : l ≠ []) (hw : l[i]? = some w) {K : AV → Prop} (h : K (I64 w)) : wIdx s 1 (.ref id 0 l.length 1) (I64 i) fun a => wLd (env R) s none a K := by
  have hi : i < l.length := (List.getElem?_eq_some_iff.1 hw).1
  refine ⟨⟨by omega, by omega, rfl, alive_ints hid hne⟩, ?_⟩
  simp_all
def Found (l : List Int) (w : Int) (i : Nat) (b : Bool) : Prop := i ≤ l.length ∧ (b = true → l[i]? = some w) ∧ (b = false → (∀ u ∈ l.take i, u < w) ∧ ∀ u ∈ l.drop i, w < u)
theorem bsearch_loop {w : Int} {l : List Int} (hs : l.Pairwise (· < ·)) {id : Nat} {s : Sto} (hid : s.bs[id]? = some (l.map fun n => I64 n)) (hne : l ≠ []) (hl : l.length < 2 ^ 40) {Post : AV → Prop} (hP : ∀ (i : Nat) b, Found l w i b → Post (.tuple [I64 i, BB b])) {n0 ro rt n m : Nat} :
    ∀ (d i j : Nat), j - i ≤ d → i ≤ j → j ≤ l.length → (∀ u ∈ l.take i, u < w) → (∀ u ∈ l.drop j, w ≤ u) → P135_1 R n0 ro rt (.ref id 0 l.length 1) (I64 w) (I64 l.length) (I64 i) (I64 j) s (QI n m Post) := by
  have fin : ∀ (i : Nat) b, Found l w i b → QI n m Post (.tuple [I64 i, BB b]) s := fun i b h => ⟨_, by simp, hP i b h⟩
  intro d
  induction d with
  | zero =>
    intro i j h1 h2 h3 h4 h5
    have e : i = j := by omega
    subst e
    refine p135_1 (in_lss ?_)
    simp only [Int.lt_irrefl, decide_false]
    refine co_f (p135_3 (in_lss ?_))
    by_cases hi : i < l.length
    · obtain ⟨u, hu⟩ : ∃ u, l[i]? = some u := ⟨_, List.getElem?_eq_getElem hi⟩
      have b1 : decide ((i : Int) < (l.length : Int)) = true := by grind
      rw [b1]
      refine gk_t (gk_t ?_)
      refine gk_t ?_
      have hi' : i < l.length := hi
      refine ⟨⟨by omega, by omega, rfl, alive_ints hid hne⟩, ?_⟩
      have e : 0 + ((i : Int).toNat) * 1 = i := by omega
      rw [e]
      refine gk_t ?_
      simp only [wLd, hid, wO, wPart, List.getElem?_map, hu, Option.map_some]
      refine gk_t (gk_t (in_eql ?_))
      cases hb : (u == w) with
      | true =>
        have huw : u = w := by grind
        subst huw
        refine gk_t ?_
        refine gk_f (by simp) (gk_f (by simp) (gk_f (by simp) (gk_f (by simp) (gk_f (by simp) (gk_f (by simp) (gk_u (gk_u (gk_f (by simp) ?_))))))))
        exact gk_t (pk (pk (fin i true ⟨h3, fun _ => hu, by simp⟩)))
      | false =>
        have huw : u ≠ w := by grind
        have hf : Found l w i false := ⟨h3, by simp, fun _ => ⟨h4, fun x hx => by
          have h6 := (sorted_at hs hu).2.1 x hx
          have h7 := h5 u (by rw [drop_cons hu]; simp)
          omega⟩⟩
        refine gk_t ?_
        refine gk_t (gk_t (gk_t ?_))
        refine ⟨⟨by omega, by omega, rfl, alive_ints hid hne⟩, ?_⟩
        rw [e]
        refine gk_t ?_
        simp only [wLd, hid, wO, wPart, List.getElem?_map, hu, Option.map_some]
        refine gk_t ?_
        refine wCall_pure (snan_spec u) ?_
        simp[*]
    · have b1 : decide ((i : Int) < (l.length : Int)) = false := by grind
      rw [b1]
      refine gk_f (by simp) (gk_f (by simp) (gk_f (by simp) (gk_f (by simp) (gk_f (by simp) (gk_f (by simp) (gk_f (by simp) ?_))))))
      refine gk_u (gk_u (gk_u (gk_u (gk_u (gk_u (gk_u (gk_u (gk_u ?_))))))))
      exact gk_f (by simp) (pk (fin i false ⟨h3, by simp, fun _ => ⟨h4, fun x hx => by grind⟩⟩))
  | succ d ih =>
    intro i j h1 h2 h3 h4 h5
    by_cases hij : i < j
    · refine p135_1 (in_lss ?_)
      have b1 : decide ((i : Int) < (j : Int)) = true := by grind
      rw [b1]
      refine co_t (p135_2 (in_add (by omega) (by omega) ?_))
      have hw1 : IntKind.u64.wrap ((i : Int) + j) = (i : Int) + j := by grind[IntKind.wrap,IntKind.bits,IntKind.signed]
      have hconv : ∀ (K : AV → Prop), K (.pv (.sc (.int .u64 ((i : Int) + j)))) → wConvI .u64 (I64 ((i : Int) + j)) K := by
        intro K h
        simp only [wConvI, hw1]
        exact h
      refine hconv _ ?_
      have hshr : ∀ (K : AV → Prop), K (.pv (.sc (.int .u64 (((i + j) / 2 : Nat) : Int)))) → wInt .u64 .shr (.pv (.sc (.int .u64 ((i : Int) + j)))) (.pv (.sc (.int .u64 1))) K := by
        intro K h
        refine ⟨⟨rfl, rfl⟩, by omega, ?_⟩
        have e : ((i : Int) + j).fdiv (2 ^ (min (1 : Int).toNat IntKind.u64.bits)) = (((i + j) / 2 : Nat) : Int) := by
          have : (2 : Int) ^ (min (1 : Int).toNat IntKind.u64.bits) = 2 := by rfl
          grind
        grind
      refine hshr _ ?_
      have hw2 : IntKind.i64.wrap ((((i + j) / 2 : Nat) : Int)) = (((i + j) / 2 : Nat) : Int) := by
        unfold IntKind.wrap
        simp [IntKind.bits, IntKind.signed]
        omega
      have hconv2 : ∀ (K : AV → Prop), K (I64 (((i + j) / 2 : Nat) : Int)) → wConvI .i64 (.pv (.sc (.int .u64 (((i + j) / 2 : Nat) : Int)))) K := by
        intro K h
        simp only [wConvI, hw2]
        exact h
      refine hconv2 _ ?_
      generalize hh : (i + j) / 2 = h at *
      obtain ⟨u, hu⟩ : ∃ u, l[h]? = some u := ⟨_, List.getElem?_eq_getElem (by omega)⟩
      refine idx_ref hid hne hu ?_
      refine wCall_pure (less_spec u w) ?_
      rintro v rfl
      have hsa := sorted_at hs hu
      by_cases hlt : u < w
      · rw [decide_eq_true hlt]
        refine co_t (in_add (by omega) (by omega) ?_)
        have := ih (h + 1) j (by omega) (by omega) h3 (fun x hx => by grind) h5
        grind
      · rw [decide_eq_false hlt]
        exact co_f (ih i h (by omega) (by omega) (by omega) h4 (fun x hx => by grind))
    · exact ih i j (by omega) h2 h3 h4 h5
theorem bsearch_spec {w : Int} {l : List Int} (hs : l.Pairwise (· < ·)) {x : AV} {s : Sto} (hx : WRep s.bs l x) (hl : l.length < 2 ^ 40) :
    ∃ v, (∃ (i : Nat) (b : Bool), v = .tuple [I64 i, BB b] ∧ Found l w i b) ∧ ∀ L, CallE (env R) L 135 [x, I64 w] s v s := by
  rcases hx with ⟨rfl, rfl⟩ | ⟨id, rfl, hid, hne⟩
  · have : PureC (env R) 135 [.capped [], I64 w] fun v => ∃ (i : Nat) (b : Bool), v = .tuple [I64 i, BB b] ∧ Found [] w i b := by
      refine e135 (u0 := .capped []) (u1 := I64 w) (by simp) (p135_0 ?_)
      simp
      refine p135_1 ?_
      simp
      refine p135_3 ?_
      simp[*,QP,Found]
    obtain ⟨v, h1, h2⟩ := this
    grind
  · have hcl : closeL [] 0 0 [.ref id 0 l.length 1, I64 w] = none := by rfl
    refine i135 hcl (p135_0 ?_)
    have hal := alive_ints hid hne
    have hlen : ∀ K : AV → Prop, K (I64 l.length) → wLen s (.ref id 0 l.length 1) K := by
      intro K h
      simp only [wLen, lenA, hal, cond_true, wO]
      exact h
    refine hlen _ ?_
    exact bsearch_loop hs hid hne hl (fun i b h => ⟨i, b, rfl, h⟩) _ 0 l.length (Nat.le_refl _) (by omega) (Nat.le_refl _) (fun u hu => by grind) (fun u hu => by grind)
end
end Go.Proofs.YtcmeadgdojfhnaaGreatDoor
/-
  Free variables, the program.
-/
namespace Go.Proofs.YtcmeadgdojfhnaaGreatDoor
open Go.Tel
attribute [local simp] wNew wBox wBoxZ markT wCond wBuild fillS wO setCells wSt wLd wPart LFE wFad alive wInt wStr wGK wGd wPick wExt wLen wSlen wNot wNil okI ceI okB ceB okS ceS okL ceL okC ceC okO ceO okP ceP okG ceG okE ceE okR ceR okF ceF okX ceX okM ceM okN ceN okNf ceNf okNi ceNi ceA roL roC roO leL leC leO tpP tpC tpO clP clC clO clF clA clT clN clL nbP nbC nbO nbN nbL toPVs
theorem bsl_int {n : Int} {s : Sto} {K : AV → Sto → Prop} (hK : K (.capped [[.sc (.int .i64 n)]]) s) : wBsl false s 1 [(I64 0)] 1 [(0, 1, I64 n)] K := by
  simp [wBsl, repl, rowsBy]
  exact hK
mutual
theorem fvs_le : ∀ (t : Ty) (u : Nat), (fvs u t).length ≤ size t
  | .mk k n i ts, u => by
    have := fvsL_le ts u k 0
    grind[fvs,size]
theorem fvsL_le : ∀ (l : List Ty) (u : Nat) (k : Int) (j : Nat), (fvsL u k j l).length ≤ sizeL l
  | [], _, _, _ => by simp [fvsL]
  | t :: l, u, k, j => by
    have := fvs_le t (u + bnd k j)
    have := fvsL_le l u k (j + 1)
    grind[fvsL,sizeL]
end
mutual
def ixs : Ty → Bool
  | .mk k _ i ts => (!(k == 5) || (decide (-(2 ^ 60) ≤ i) && decide (i < 2 ^ 60))) && ixsL ts
def ixsL : List Ty → Bool
  | [] => true
  | t :: l => ixs t && ixsL l
end
theorem insert_mem {l : List Int} {w x : Int} {i : Nat} : x ∈ l.take i ++ w :: l.drop i ↔ x ∈ l ∨ x = w := by grind[List.take_append_drop]
theorem insert_len {l : List Int} {w : Int} {i : Nat} (hi : i ≤ l.length) : (l.take i ++ w :: l.drop i).length = l.length + 1 := by grind
theorem insert_sorted {l : List Int} {w : Int} {i : Nat} (hs : l.Pairwise (· < ·)) (h1 : ∀ u ∈ l.take i, u < w) (h2 : ∀ u ∈ l.drop i, w < u) : (l.take i ++ w :: l.drop i).Pairwise (· < ·) := by grind[List.pairwise_cons]
def NS (q : Nat) (l : List Int) (bs : List (List AV)) : Prop := ∃ x, bs[q]? = some [x] ∧ WRep bs l x
structure Stp (q : Nat) (l l' : List Int) (new : List Int) (s s' : Sto) : Prop where
  ns : NS q l' s'.bs
  srt : l.Pairwise (· < ·) → l'.Pairwise (· < ·)
  mem : ∀ x, x ∈ l' ↔ x ∈ l ∨ x ∈ new
  len : l'.length ≤ l.length + new.length
  ts : s'.ts = s.ts
  grow : s.bs.length ≤ s'.bs.length
  keep : ∀ (p : Nat) (k n : AV) (r : List AV), (∀ i, n ≠ I64 i) → s.bs[p]? = some (k :: n :: r) → s'.bs[p]? = some (k :: n :: r)
section
variable {R : RT}
theorem insert_call {w : Int} {l : List Int} {x : AV} {s : Sto} {q i : Nat} (hq : s.bs[q]? = some [x]) (hx : WRep s.bs l x) (hl : l.length < 2 ^ 20) (hi : i ≤ l.length) {L : Lim} (hro : L.ro = 0) :
    ∃ id bs', CallE (env R) L 136 [x, I64 i, .capped [[.sc (.int .i64 w)]]] s (.ref id 0 (l.length + 1) 1) ⟨bs', s.ts⟩ ∧ bs'[id]? = some ((l.take i ++ w :: l.drop i).map fun n => I64 n) ∧ bs'[q]? = some [x] ∧ q ≠ id ∧ s.bs.length ≤ bs'.length ∧ q < bs'.length ∧
      (∀ (p : Nat) (k n : AV) (r : List AV), (∀ i, n ≠ I64 i) → s.bs[p]? = some (k :: n :: r) → bs'[p]? = some (k :: n :: r)) := by
  have hql : q < s.bs.length := (List.getElem?_eq_some_iff.1 hq).1
  have ei : (I64 i) = .pv (.sc (.int .i64 (.ofNat i))) := rfl
  rcases hx with ⟨rfl, rfl⟩ | ⟨id, rfl, hid, hne⟩
  · have hi0 : i = 0 := by grind
    subst hi0
    refine ⟨s.bs.length, s.bs ++ [[I64 w]], CallE.of_told Tryz.func136 (by rfl) (T := insT) (by rfl) ?_, ?_, ?_, by omega, by simp, by grind, ?_⟩
    · rfl
    all_goals grind
  · have hil : id < s.bs.length := (List.getElem?_eq_some_iff.1 hid).1
    have hne' : id ≠ q := by
      intro e
      subst e
      simp_all
    have h1 : 1 ≤ l.length := by grind
    refine ⟨s.bs.length, s.bs.set id [] ++ [(l.take i ++ w :: l.drop i).map fun n => I64 n], CallE.of_told Tryz.func136 (by rfl) (T := insT) (by rfl) ?_, ?_, ?_, by omega, by simp, by grind, ?_⟩
    · have b1 : Nat.beq l.length (l.map fun n => I64 n).length = true := by simp
      have b2 : Nat.ble 1 l.length = true := by simp[*]
      have b3 : Nat.ble i l.length = true := by simp[*]
      have b4 : Nat.ble l.length 1000000000 = true := by simp; omega
      grind[Nat.ble,insT,okCell,List.map_take,List.map_drop]
    · simp
    · rw [List.getElem?_append_left (by grind), List.getElem?_set_ne hne', hq]
    · intro p k n r hnn hp
      have hpl : p < s.bs.length := (List.getElem?_eq_some_iff.1 hp).1
      have : id ≠ p := by
        intro e
        subst e
        rw [hp] at hid
        rcases l with _ | ⟨a, _ | ⟨b, l⟩⟩
        all_goals grind
      rw [List.getElem?_append_left (by grind), List.getElem?_set_ne this, hp]
theorem add_spec {w : Int} {l : List Int} (hsd : l.Pairwise (· < ·)) {s : Sto} {q : Nat} (hns : NS q l s.bs) (hl : l.length < 2 ^ 20) {L : Lim} (hro : L.ro = 0) (hn0 : L.n0 = 0) :
    ∃ v s', (v = .tuple [] ∧ ∃ l', Stp q l l' [w] s s') ∧ CallE (env R) L 104 [.ptr q 0, I64 w] s v s' := by
  obtain ⟨x, hq, hx⟩ := hns
  have hql : q < s.bs.length := (List.getElem?_eq_some_iff.1 hq).1
  refine m104 (p104_0 (nil_of (al_of hq) (fad_of (al_of hq) (ld_of (off := 0) hq rfl ?_))))
  obtain ⟨v, ⟨i, b, rfl, hf⟩, hc⟩ := bsearch_spec (R := R) (w := w) hsd hx (by omega)
  refine ⟨_, _, hc _, ex_of rfl (ex_of rfl (nt ?_))⟩
  obtain ⟨hi, hb, hfb⟩ := hf
  cases b with
  | true =>
    refine co_f ⟨rfl, l, ⟨x, hq, hx⟩, fun h => h, fun y => ⟨.inl, ?_⟩, by simp, rfl, Nat.le_refl _, fun _ _ _ _ _ h => h⟩
    grind
  | false =>
    obtain ⟨h8, h9⟩ := hfb rfl
    obtain ⟨id, bs', h1, h2, h3, h4, h5, h6, h7⟩ := insert_call (R := R) (w := w) hq hx hl hi (L := LFE (env R) 104 L.n0 L.ro L.rt) hro
    refine co_t (nil_of (al_of hq) (fad_of (al_of hq) (ld_of (off := 0) hq rfl (bsl_int ?_))))
    refine ⟨_, _, h1, nil_of (al_of h3) (fad_of (al_of h3) (st_one h3 (by simp) rfl (by simp[*]) rfl (.inl (by simp[*])) ?_))⟩
    have hset : ∀ y, (bs'.set q y)[q]? = some y := fun y => by grind
    refine ⟨rfl, l.take i ++ w :: l.drop i, ⟨_, hset _, .inr ⟨id, by rw [insert_len hi], by grind, by simp⟩⟩, fun hs => insert_sorted hs h8 h9, fun y => ?_, by grind, rfl, by grind, ?_⟩
    all_goals grind[insert_mem]
theorem Stp.refl {q : Nat} {l : List Int} {s : Sto} (h : NS q l s.bs) : Stp q l l [] s s := ⟨h, fun h => h, by simp, by simp, rfl, Nat.le_refl _, fun _ _ _ _ _ h => h⟩
theorem Stp.trans {q : Nat} {l l1 l2 n1 n2 : List Int} {s s1 s2 : Sto} (h1 : Stp q l l1 n1 s s1) (h2 : Stp q l1 l2 n2 s1 s2) : Stp q l l2 (n1 ++ n2) s s2 := by
  refine ⟨h2.ns, fun h => h2.srt (h1.srt h), fun x => ?_, ?_, by rw [h2.ts, h1.ts], Nat.le_trans h1.grow h2.grow, fun p k n r hn h => h2.keep p k n r hn (h1.keep p k n r hn h)⟩
  · rw [h2.mem, h1.mem, List.mem_append]
    grind
  · have := h1.len
    have := h2.len
    grind
theorem Stp.push {q : Nat} {l : List Int} {s : Sto} (h : NS q l s.bs) (b : List AV) : Stp q l l [] s ⟨s.bs ++ [b], s.ts⟩ := by
  obtain ⟨x, hq, hx⟩ := h
  have hql : q < s.bs.length := (List.getElem?_eq_some_iff.1 hq).1
  refine ⟨⟨x, by rw [List.getElem?_append_left hql, hq], ?_⟩, fun h => h, by simp, by simp, rfl, by simp, fun p k n r _ hp => ?_⟩
  · rcases hx with ⟨h1, h2⟩ | ⟨id, h1, h2, h3⟩
    · exact .inl ⟨h1, h2⟩
    · exact .inr ⟨id, h1, by rw [List.getElem?_append_left (List.getElem?_eq_some_iff.1 h2).1, h2], h3⟩
  grind
def CollS (R : RT) (t : Ty) : Prop := ∀ (x : AV), TRep t x → ∀ (u : Nat), u + size t < 2 ^ 30 → ∀ (q : Nat) (l : List Int) (s : Sto) (L : Lim), l.Pairwise (· < ·) → NS q l s.bs → l.length + size t < 2 ^ 19 → L.ro = 0 → L.n0 = 0 →
  ∃ v s', (v = .tuple [] ∧ ∃ l', Stp q l l' (fvs u t) s s') ∧ CallE (env R) L 70 [x, I64 u, .ptr q 0] s v s'
theorem ss_int (n : List UInt8) (i : Int) : SS n ≠ I64 i := by simp
theorem coll_loop {k0 i0 : Int} {n0' : List UInt8} {ts : List Ty} {a : AV} (ha : RowsA a (rowsT ts)) (hl : sizeL ts < 2 ^ 30) (ih : ∀ t ∈ ts, CollS R t) {u q b0 : Nat} (hu : u + sizeL ts + 1 < 2 ^ 30) {l0 : List Int} (hs0 : l0.Pairwise (· < ·)) {s0 : Sto} {L : Lim} (hro : L.ro = 0) (hn0 : L.n0 = 0) {Post : AV → Sto → Prop} {pre : List Int}
    (hP : ∀ l' s', Stp q l0 l' (pre ++ fvsL u k0 0 ts) s0 s' → Post (.tuple []) s') (hlen : l0.length + pre.length + sizeL ts < 2 ^ 19) :
    ∀ (j i : Nat) (l : List Int) (s : Sto) (don : List Int), i + j = ts.length → s.bs[b0]? = some [I64 k0, SS n0', I64 i0, a] → Stp q l0 l (pre ++ don) s0 s → don ++ fvsL u k0 i (ts.drop i) = fvsL u k0 0 ts → don.length + sizeL (ts.drop i) ≤ sizeL ts → P70_2 R L.n0 L.ro L.rt (I64 u) (.ptr q 0) (.ptr b0 0) a (I64 ts.length) (I64 i) s Post := by
  have h60 := sizeL_len ts
  intro j
  induction j with
  | zero =>
    intro i l s don hi hb hs hd _
    refine p70_2 (in_lss ?_)
    have h1 : ¬ ((i : Int) < ts.length) := by omega
    rw [decide_eq_false h1]
    refine co_f ?_
    have h2 : ts.drop i = [] := List.drop_of_length_le (by omega)
    rw [h2] at hd
    simp only [fvsL, List.append_nil] at hd
    rw [hd] at hs
    exact hP l s hs
  | succ j ihj =>
    intro i l s don hi hb hs hd hsz
    refine p70_2 (in_lss ?_)
    have h1 : ((i : Int) < ts.length) := by omega
    rw [decide_eq_true h1]
    refine co_t (p70_3 ?_)
    obtain ⟨t, ht⟩ : ∃ t, ts[i]? = some t := ⟨_, List.getElem?_eq_getElem (by omega)⟩
    rw [drop_cons ht] at hd hsz
    simp only [fvsL, sizeL] at hd hsz
    refine wIdx_rows ha (row := rowT t) (by omega) (by grind[rowsT_get]) (rowT_len t) (by omega) (ld_row ?_)
    have hrep := TRep.of_row t
    have hbl := bnd_le k0 i
    have hsm := size_mem (List.mem_of_getElem? ht)
    have hcol := ih t (List.mem_of_getElem? ht) _ hrep (u + bnd k0 i) (by omega)
    have hrl : ((rowT t).map AV.pv).length = 4 := by grind[rowT_len]
    have hrok := rowT_ok t
    have hself := eqA_rowT t
    have hst := Stp.push hs.ns ((rowT t).map AV.pv)
    have hlb := hs.len
    simp only [List.length_append] at hlb
    have hfl := fvs_le t (u + bnd k0 i)
    generalize (rowT t).map AV.pv = row at hcol hrl hrok hself hst
    obtain ⟨bs, tk⟩ := s
    refine new_of (st_all (get_last bs Z4) hrl rfl (by decide) (by simp[*]) hrok (.inl (by simp[*])) ?_)
    have e1 : (bs ++ [Z4]).set bs.length row = bs ++ [row] := by simp
    simp only at hst hb hs
    rw [e1]
    have gb := get_push hb row
    refine ldk_of (get_last bs row) hrl (ldk_of gb rfl ?_)
    have hbs : PureC (env R) 105 [.agg [I64 k0, SS n0', I64 i0, a], I64 i] fun r => r = I64 (bnd k0 i) := binders_spec ha i
    refine wCall_pure hbs ?_
    rintro _ rfl
    refine in_add (by omega) (by omega) ?_
    have e2 : ((u : Int) + (bnd k0 i : Nat)) = ((u + bnd k0 i : Nat) : Int) := by omega
    rw [e2]
    obtain ⟨v, s1, ⟨rfl, l1, h3⟩, hc⟩ := hcol q l ⟨bs ++ [row], tk⟩ (LFE (env R) 70 L.n0 L.ro L.rt) (hs.srt hs0) hst.ns (by omega) hro hn0
    refine ⟨_, _, hc, ldk_of (get_last bs row) hrl hself, ?_⟩
    refine p70_4 (in_add (by omega) (by omega) ?_)
    have hall := (hs.trans hst).trans h3
    simp only [List.append_nil, List.append_assoc] at hall
    have := ihj (i + 1) l1 s1 (don ++ fvs (u + bnd k0 i) t) (by omega) (h3.keep _ _ _ _ (ss_int _) gb) hall (by grind) (by grind)
    grind
mutual
theorem coll_spec : ∀ (t : Ty), ixs t = true → CollS R t
  | .mk k n i ts, hix => by
    intro x hx u hu q l s L hsd hns hl hro hn0
    obtain ⟨a, rfl, ha⟩ := hx
    simp only [size] at hl hu
    simp only [ixs, Bool.and_eq_true] at hix
    have ih := colls_spec ts hix.2
    suffices H : ∀ Post : AV → Sto → Prop, (∀ l' s', Stp q l l' (fvs u (.mk k n i ts)) s s' → Post (.tuple []) s') → P70_0 R L.n0 L.ro L.rt (.agg [I64 k, SS n, I64 i, a]) (I64 u) (.ptr q 0) s Post from
      m70 (H _ fun l' s' h => ⟨rfl, l', h⟩)
    intro Post hP
    have hst := Stp.push hns [I64 k, SS n, I64 i, a]
    have g0 := get_last s.bs [I64 k, SS n, I64 i, a]
    refine p70_0 (bx_of (cs := [I64 k, SS n, I64 i, a]) rfl (by simp [ha.ok]) (fad_of (al_of g0) (ld_of (off := 0) g0 rfl (in_eql ?_))))
    have tail : ∀ (pre l1 : List Int) (s1 : Sto), Stp q l l1 pre s s1 → pre ++ fvsL u k 0 ts = fvs u (.mk k n i ts) → pre.length ≤ 1 → s1.bs[s.bs.length]? = some [I64 k, SS n, I64 i, a] → P70_1 R L.n0 L.ro L.rt (I64 u) (.ptr q 0) (.ptr s.bs.length 0) s1 Post := by
      intro pre l1 s1 h1 h2 h3 h4
      refine p70_1 (fad_of (al_of h4) (ld_of (off := 3) h4 rfl (len_of (n := ts.length) (by rw [ha.lenA, rowsT_len]) ?_)))
      exact coll_loop (R := R) (q := q) (l0 := l) (s0 := s) (L := L) (pre := pre) (Post := Post) ha (by omega) ih (by omega) hsd hro hn0 (fun l' s' h => hP l' s' (by grind)) (by omega) ts.length 0 l1 s1 [] (by omega) h4 (by grind) (by simp) (by simp)
    cases hk : (k == 5) with
    | true =>
      have e2 : k = 5 := by grind
      subst e2
      have hix1 := hix.1
      simp at hix1
      refine gk_t (fad_of (al_of g0) (gk_t (ld_of (off := 2) g0 rfl (gk_t (gk_t (in_geq (pk ?_)))))))
      by_cases hui : (u : Int) ≤ i
      · have : i ≥ (u : Int) := hui
        rw [decide_eq_true this]
        refine co_t (fad_of (al_of g0) (ld_of (off := 2) g0 rfl (in_sub (by omega) (by omega) ?_)))
        refine wCall_do (add_spec (R := R) (w := i - u) (q := q) (s := ⟨s.bs ++ [[I64 5, SS n, I64 i, a]], s.ts⟩) (l := l) (L := LFE (env R) 70 L.n0 L.ro L.rt) hsd hst.ns (by omega) hro hn0) ?_
        rintro v s1 ⟨rfl, l1, h1⟩
        refine tail [i - u] l1 s1 ?_ ?_ (by simp) (h1.keep _ _ _ _ (ss_int _) g0)
        · simpa using hst.trans h1
        grind[fvs]
      grind[co_f,fvs]
    | false =>
      grind[gk_ft,pk,co_f,fvs]
theorem colls_spec : ∀ (l : List Ty), ixsL l = true → ∀ t ∈ l, CollS R t
  | [], _, _, h => by cases h
  | e :: l, hix, a, h => by
    simp only [ixsL, Bool.and_eq_true] at hix
    rcases List.mem_cons.1 h with h' | h'
    · rw [h']
      exact coll_spec e hix.1
    · exact colls_spec l hix.2 a h'
end
theorem WRep.closed {bs : List (List AV)} {l : List Int} {x : AV} (h : WRep bs l x) : ∃ x', close bs 0 0 x = some x' ∧ RowsA x' (intRows l) := by
  rcases h with ⟨rfl, rfl⟩ | ⟨id, rfl, hid, hne⟩
  · exact ⟨.capped [], by rfl, by simp [intRows]; exact .capped _⟩
  · have hpv : ∀ l : List Int, toPVs (l.map fun n => I64 n) = some (l.map fun w => PV.sc (.int .i64 w)) := by
      intro l
      induction l with
      | nil => rfl
      | cons w l ih => simp[*]
    have hrb : ∀ l : List Int, rowsBy 1 l.length (l.map fun w => PV.sc (.int .i64 w)) = intRows l := by
      intro l
      induction l with
      | nil => rfl
      | cons w l ih => grind[rowsBy,intRows]
    have hemp : (l.map fun n => I64 n).isEmpty = false := by simp[*]
    refine ⟨.pv (.list (intRows l)), ?_, .list _⟩
    grind[close,refRows]
theorem freeVars_spec {t : Ty} (h : size t < 2 ^ 18) (hix : ixs t = true) {x : AV} (hx : TRep t x) : PureC (env R) 44 [x] fun r => ∃ l : List Int, RowsA r (intRows l) ∧ l.Pairwise (· < ·) ∧ (∀ w, w ∈ l ↔ w ∈ fvs 0 t) := by
  have hc := coll_spec (R := R) t hix x hx 0 (by omega) 1 []
  have hle := fvs_le t 0
  generalize hn : fvs 0 t = N at *
  generalize size t = z at *
  obtain ⟨k, n, i, ts⟩ := t
  obtain ⟨a, rfl, ha⟩ := hx
  refine e44 (u0 := .agg [I64 k, SS n, I64 i, a]) (by simp [ha.close]) (p44_0 ?_)
  refine bx_of (cs := [I64 k, SS n, I64 i, a]) rfl (by simp [ha.ok]) (new_of (ldk_of (cs := [I64 k, SS n, I64 i, a]) rfl rfl ?_))
  refine wCall_do (hc ⟨[[I64 k, SS n, I64 i, a], [.capped []]], []⟩ (LFE (env R) 44 0 0 0) List.Pairwise.nil ⟨.capped [], rfl, .inl ⟨rfl, rfl⟩⟩ (by grind) rfl rfl) ?_
  rintro v s1 ⟨rfl, l', h1⟩
  obtain ⟨y, hy, hw⟩ := h1.ns
  obtain ⟨y', hcl, hr⟩ := hw.closed
  refine fad_of ?_ (ld_of (off := 0) hy rfl ?_)
  · simp[*]
  · exact ⟨y', hcl, l', hr, h1.srt List.Pairwise.nil, fun w => by rw [h1.mem]; simp⟩
end
end Go.Proofs.YtcmeadgdojfhnaaGreatDoor
