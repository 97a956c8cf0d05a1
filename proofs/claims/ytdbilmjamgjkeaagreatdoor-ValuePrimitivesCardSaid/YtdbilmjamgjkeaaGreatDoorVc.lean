/-
  Streams and generated values.
-/
import Derived.Test.YtdbilmjamgjkeaaGreatDoorV4
import Derived.Test.YtdbilmjamgjkeaaGreatDoorWvD
set_option linter.unusedSimpArgs false
set_option linter.unusedVariables false
namespace Go.Proofs.YtdbilmjamgjkeaaGreatDoor
open Go.Tel

theorem tmod_gt (a : Int) {b : Int} (hb : 0 < b) : -b < a.tmod b := by
  by_cases ha : 0 ≤ a
  · have := Int.tmod_nonneg b ha
    omega
  · have h1 : (-a).tmod b < b := Int.tmod_lt_of_pos _ hb
    have h2 := Int.neg_tmod a b
    omega

theorem mod_spec (a b : Int) (hb : 0 < b) (hb2 : b < 2 ^ 62) : PureC env 12 [I64 a, I64 b] fun v => ∃ r, v = I64 r ∧ 0 ≤ r ∧ r < b := by
  refine e12 rfl (p12_0 ?_)
  have h1 := Int.tmod_lt_of_pos a hb
  have h2 := tmod_gt a hb
  simp only [wInt, wCond]
  refine ⟨⟨trivial, trivial⟩, by omega, ⟨trivial, trivial⟩, fun h => ?_, fun h => ?_⟩
  · simp at h
    refine ⟨⟨trivial, trivial⟩, wAri_fit (by omega) (by omega) (p12_1 ?_)⟩
    exact ⟨_, clP, _, rfl, by omega, by omega⟩
  · simp at h
    refine p12_1 ?_
    exact ⟨_, clP, _, rfl, by omega, by omega⟩

theorem ST_alive {bs : List (List AV)} {id : Nat} {l : List Int} {k : Nat} {ts : List (Nat × Nat)} (h : id < bs.length) (m : List (List AV)) : alive ⟨ST bs id l k ++ m, ts⟩ id = true := by
  simp [alive, ST_get h, StB]

theorem keep_all {bs : List (List AV)} {id : Nat} {l : List Int} (hB : Base bs id l) {m : List (List AV)} (hm : LocB bs m) (k : Nat) {n : Nat} (hn : n = bs.length + m.length) : (((ST bs id l k ++ m).take n).all (idsLtL n)) = true := by
  rw [List.take_of_length_le (by simp [ST_len]; omega), hn]
  exact hB.all hm k

theorem QM_ST {rr : Bool} {N : Nat} {bs : List (List AV)} {id : Nat} {l : List Int} (hB : Base bs id l) {m : List (List AV)} (hm : LocB bs m) {k : Nat} {ts : List (Nat × Nat)} {Post : AV → Sto → Prop} {p : PV} (hN : N = bs.length + m.length)
    (h : Post (.pv p) ⟨ST bs id l k ++ m, ts⟩) : QM rr N Post (.pv p) ⟨ST bs id l k ++ m, ts⟩ := by
  refine QM_pv (keep_all hB hm k hN) ?_
  have : (ST bs id l k ++ m).take N = ST bs id l k ++ m := List.take_of_length_le (by simp [ST_len]; omega)
  simpa [this] using h

theorem next_spec {bs : List (List AV)} {id : Nat} {l : List Int} (hB : Base bs id l) {m : List (List AV)} (hm : LocB bs m) {k : Nat} (hk : k ≤ l.length) {n : Int} (hn : 0 < n) (hn2 : n < 2 ^ 62) (L : Lim) (hro : L.ro ≤ id) (ts : List (Nat × Nat)) :
    ∃ v s', (∃ r k', v = I64 r ∧ 0 ≤ r ∧ r < n ∧ k ≤ k' ∧ k' ≤ l.length ∧ s' = ⟨ST bs id l k' ++ m, ts⟩) ∧ CallE env L 39 [.ptr id 0, I64 n] ⟨ST bs id l k ++ m, ts⟩ v s' := by
  have hlen := hB.len
  have hlt := hB.lt
  suffices H : ∀ (rr : Bool) (N : Nat) (Post : AV → Sto → Prop), N = bs.length + m.length → (∀ r k', 0 ≤ r → r < n → k ≤ k' → k' ≤ l.length → Post (I64 r) ⟨ST bs id l k' ++ m, ts⟩) → P39_0 0 L.ro L.rt (.ptr id 0) (I64 n) ⟨ST bs id l k ++ m, ts⟩ (QM rr N Post) from
    m39 (by simp [noIdL, noId]) (H _ _ _ (by simp [ST_len]) fun r k' h1 h2 h3 h4 => ⟨r, k', rfl, h1, h2, h3, h4, rfl⟩)
  intro rr N Post hN hP
  refine p39_0 ?_
  by_cases h : k = l.length
  · have h1 : ((k : Int) ≥ l.length) := by omega
    simp [wNew, wBox, wCond, wBuild, fillS, wO, setCells, wSt, wLd, wPart, LFE, wFad, alive, wInt, wStr, wGK, wGd, wPick, wExt, wLen, wSlen, wNot, wNil, okI, ceI, okB, ceB, okS, ceS, okL, ceL, okC, ceC, okO, ceO, okP, ceP, okG, ceG, okE, ceE, okR, ceR, okF, ceF, okX, ceX, okM, ceM, okN, ceN, okNf, ceNf, okNi, ceNi, ceA, roL, roC, roO, leL, leC, leO, tpP, tpC, tpO, clP, clC, clO, clF, clA, clT, clN, clL, nbP, nbC, nbO, nbN, nbL, toPVs, ST_get hlt, StB, intRows_len, h]
    rw [← h]
    exact QM_ST hB hm hN (hP 0 k (by omega) hn (by omega) (by omega))
  · have h1 : ¬ ((l.length : Int) ≤ k) := by omega
    simp [wNew, wBox, wCond, wBuild, fillS, wO, setCells, wSt, wLd, wPart, LFE, wFad, alive, wInt, wStr, wGK, wGd, wPick, wExt, wLen, wSlen, wNot, wNil, okI, ceI, okB, ceB, okS, ceS, okL, ceL, okC, ceC, okO, ceO, okP, ceP, okG, ceG, okE, ceE, okR, ceR, okF, ceF, okX, ceX, okM, ceM, okN, ceN, okNf, ceNf, okNi, ceNi, ceA, roL, roC, roO, leL, leC, leO, tpP, tpC, tpO, clP, clC, clO, clF, clA, clT, clN, clL, nbP, nbC, nbO, nbN, nbL, toPVs, ST_get hlt, StB, intRows_len]
    refine ⟨fun h2 => absurd h2 (by omega), fun _ => ?_⟩
    refine p39_1 ?_
    obtain ⟨a, ha⟩ : ∃ a, l[k]? = some a := ⟨_, List.getElem?_eq_getElem (by omega)⟩
    simp only [wNil, ST_alive hlt, wFad, wLd, wO, ST_get hlt, wInt]
    refine ⟨trivial, trivial, ?_⟩
    simp only [StB, wPart, wO, List.getElem?_cons_succ, List.getElem?_cons_zero, Nat.zero_add]
    refine ⟨⟨trivial, trivial⟩, wAri_fit (by omega) (by omega) ?_⟩
    simp only [wNil, ST_alive hlt, wFad, wSt, wO, ST_get hlt, LFE, ceI]
    refine ⟨trivial, trivial, ⟨by simp, by simp [StB], hro, by simp [okI], .inl (by omega), by omega⟩, ?_⟩
    have e : (ST bs id l k ++ m).set id (setCells (StB l k) (0 + 1) [I64 (k + 1)]) = ST bs id l (k + 1) ++ m := by
      have : setCells (StB l k) (0 + 1) [I64 (k + 1)] = StB l (k + 1) := by simp [StB, setCells]
      rw [this]
      exact ST_set hlt m
    simp only [e, wNil, ST_alive hlt, wFad, wLd, wO, ST_get hlt]
    refine ⟨trivial, trivial, ?_⟩
    simp only [StB, wPart, wO, List.getElem?_cons_succ, List.getElem?_cons_zero, Nat.zero_add]
    refine ⟨trivial, trivial, ⟨trivial, trivial⟩, wAri_fit (by omega) (by omega) ?_⟩
    refine wIdx_rows (.list _) (row := [.sc (.int .i64 a)]) (by omega) ?_ rfl (by omega) ?_
    · have : ((k + 1 : Nat) - 1 : Int).toNat = k := by omega
      simp [this, intRows, ha]
    simp only [wLd, wPart, wO, List.map_cons, List.map_nil, List.getElem?_cons_zero]
    refine wCall_pure (mod_spec a n hn hn2) ?_
    rintro v ⟨r, rfl, hr1, hr2⟩
    exact QM_ST hB hm hN (hP r (k + 1) hr1 hr2 (by omega) (by omega))

theorem raw_spec {bs : List (List AV)} {id : Nat} {l : List Int} (hB : Base bs id l) {m : List (List AV)} (hm : LocB bs m) {k : Nat} (hk : k ≤ l.length) (L : Lim) (hro : L.ro ≤ id) (ts : List (Nat × Nat)) :
    ∃ v s', (∃ r k', v = I64 r ∧ k ≤ k' ∧ k' ≤ l.length ∧ s' = ⟨ST bs id l k' ++ m, ts⟩) ∧ CallE env L 56 [.ptr id 0] ⟨ST bs id l k ++ m, ts⟩ v s' := by
  have hlen := hB.len
  have hlt := hB.lt
  suffices H : ∀ (rr : Bool) (N : Nat) (Post : AV → Sto → Prop), N = bs.length + m.length → (∀ r k', k ≤ k' → k' ≤ l.length → Post (I64 r) ⟨ST bs id l k' ++ m, ts⟩) → P56_0 0 L.ro L.rt (.ptr id 0) ⟨ST bs id l k ++ m, ts⟩ (QM rr N Post) from
    m56 (by simp [noIdL, noId]) (H _ _ _ (by simp [ST_len]) fun r k' h3 h4 => ⟨r, k', rfl, h3, h4, rfl⟩)
  intro rr N Post hN hP
  refine p56_0 ?_
  by_cases h : k = l.length
  · simp [wNew, wBox, wCond, wBuild, fillS, wO, setCells, wSt, wLd, wPart, LFE, wFad, alive, wInt, wStr, wGK, wGd, wPick, wExt, wLen, wSlen, wNot, wNil, okI, ceI, okB, ceB, okS, ceS, okL, ceL, okC, ceC, okO, ceO, okP, ceP, okG, ceG, okE, ceE, okR, ceR, okF, ceF, okX, ceX, okM, ceM, okN, ceN, okNf, ceNf, okNi, ceNi, ceA, roL, roC, roO, leL, leC, leO, tpP, tpC, tpO, clP, clC, clO, clF, clA, clT, clN, clL, nbP, nbC, nbO, nbN, nbL, toPVs, ST_get hlt, StB, intRows_len, h]
    rw [← h]
    exact QM_ST hB hm hN (hP 0 k (by omega) (by omega))
  · simp [wNew, wBox, wCond, wBuild, fillS, wO, setCells, wSt, wLd, wPart, LFE, wFad, alive, wInt, wStr, wGK, wGd, wPick, wExt, wLen, wSlen, wNot, wNil, okI, ceI, okB, ceB, okS, ceS, okL, ceL, okC, ceC, okO, ceO, okP, ceP, okG, ceG, okE, ceE, okR, ceR, okF, ceF, okX, ceX, okM, ceM, okN, ceN, okNf, ceNf, okNi, ceNi, ceA, roL, roC, roO, leL, leC, leO, tpP, tpC, tpO, clP, clC, clO, clF, clA, clT, clN, clL, nbP, nbC, nbO, nbN, nbL, toPVs, ST_get hlt, StB, intRows_len]
    refine ⟨fun h2 => absurd h2 (by omega), fun _ => ?_⟩
    refine p56_1 ?_
    obtain ⟨a, ha⟩ : ∃ a, l[k]? = some a := ⟨_, List.getElem?_eq_getElem (by omega)⟩
    simp only [wNil, ST_alive hlt, wFad, wLd, wO, ST_get hlt, wInt]
    refine ⟨trivial, trivial, ?_⟩
    simp only [StB, wPart, wO, List.getElem?_cons_succ, List.getElem?_cons_zero, Nat.zero_add]
    refine ⟨⟨trivial, trivial⟩, wAri_fit (by omega) (by omega) ?_⟩
    simp only [wNil, ST_alive hlt, wFad, wSt, wO, ST_get hlt, LFE, ceI]
    refine ⟨trivial, trivial, ⟨by simp, by simp [StB], hro, by simp [okI], .inl (by omega), by omega⟩, ?_⟩
    have e : (ST bs id l k ++ m).set id (setCells (StB l k) (0 + 1) [I64 (k + 1)]) = ST bs id l (k + 1) ++ m := by
      have : setCells (StB l k) (0 + 1) [I64 (k + 1)] = StB l (k + 1) := by simp [StB, setCells]
      rw [this]
      exact ST_set hlt m
    simp only [e, wNil, ST_alive hlt, wFad, wLd, wO, ST_get hlt]
    refine ⟨trivial, trivial, ?_⟩
    simp only [StB, wPart, wO, List.getElem?_cons_succ, List.getElem?_cons_zero, Nat.zero_add]
    refine ⟨trivial, trivial, ⟨trivial, trivial⟩, wAri_fit (by omega) (by omega) ?_⟩
    refine wIdx_rows (.list _) (row := [.sc (.int .i64 a)]) (by omega) ?_ rfl (by omega) ?_
    · have : ((k + 1 : Nat) - 1 : Int).toNat = k := by omega
      simp [this, intRows, ha]
    simp only [wLd, wPart, wO, List.map_cons, List.map_nil, List.getElem?_cons_zero]
    exact QM_ST hB hm hN (hP a (k + 1) (by omega) (by omega))

end Go.Proofs.YtdbilmjamgjkeaaGreatDoor

/-
  Generated values.
-/
namespace Go.Proofs.YtdbilmjamgjkeaaGreatDoor
open Go.Tel

section
variable {bs : List (List AV)} {id : Nat} {l : List Int}

theorem loc_get (k : Nat) (m r : List (List AV)) (j : Nat) : (ST bs id l k ++ (m ++ r))[bs.length + m.length + j]? = r[j]? := by
  have := get_app (ST bs id l k ++ m) r j
  simpa [ST_len] using this
theorem loc_get0 (k : Nat) (m r : List (List AV)) : (ST bs id l k ++ (m ++ r))[bs.length + m.length]? = r[0]? := loc_get k m r 0
theorem loc_set (k : Nat) (m r : List (List AV)) (j : Nat) (v : List AV) : (ST bs id l k ++ (m ++ r)).set (bs.length + m.length + j) v = ST bs id l k ++ (m ++ r.set j v) := by
  have := set_app (ST bs id l k ++ m) r j v
  simpa [ST_len] using this
theorem loc_set0 (k : Nat) (m r : List (List AV)) (v : List AV) : (ST bs id l k ++ (m ++ r)).set (bs.length + m.length) v = ST bs id l k ++ (m ++ r.set 0 v) := loc_set k m r 0 v

theorem locB_push {m : List (List AV)} (hm : LocB bs m) {r : List (List AV)} (hr : ∀ b ∈ r, idsLtL (bs.length + m.length + r.length) b = true) : LocB bs (m ++ r) := by
  intro b hb
  rcases List.mem_append.1 hb with h | h
  · exact idsLtL_mono (by simp) b (hm b h)
  · have := hr b h
    simpa [Nat.add_assoc] using this

theorem rowsV_nil : rowsV [] = [] := by simp [rowsV]

/-- What a value is outside of slices, perhaps with a slice that is being appended to. -/
def VRepO (v : Val) (x : AV) : Prop := match v with
  | .mk k n s es => ∃ a, x = .agg [I64 k, I64 n, SS s, a] ∧ RowsO a (rowsV es)

theorem QM_val {rr : Bool} {N : Nat} (hB : Base bs id l) {m r : List (List AV)} (hm : LocB bs m) {k : Nat} {ts : List (Nat × Nat)} {Post : AV → Sto → Prop} (hN : N = bs.length + m.length) {c n : Int} {s : List UInt8} {es : List Val} {a : AV} (ha : RowsO a (rowsV es))
    (h : ∀ x, VRepO (.mk c n s es) x → Post x ⟨ST bs id l k ++ m, ts⟩) : QM rr N Post (.agg [I64 c, I64 n, SS s, a]) ⟨ST bs id l k ++ (m ++ r), ts⟩ := by
  subst hN
  have e : (ST bs id l k ++ (m ++ r)).take (bs.length + m.length) = ST bs id l k ++ m := by
    rw [← List.append_assoc, List.take_append_of_le_length (by simp [ST_len]), List.take_of_length_le (by simp [ST_len])]
  obtain ⟨a', h1, h2⟩ := ha.close (ST bs id l k ++ (m ++ r)) (bs.length + m.length) ts.length
  refine QM_agg (ds := [I64 c, I64 n, SS s, a']) ?_ (by simp [clL, clN, clP, h1]) ?_
  · simp only [e]
    exact hB.all hm k
  · simp only [e]
    exact h _ ⟨a', rfl, h2⟩

end

theorem value_leaf {bs : List (List AV)} {id : Nat} {l : List Int} (hB : Base bs id l) {m : List (List AV)} (hm : LocB bs m) {k : Nat} {ts : List (Nat × Nat)} {Post : AV → Sto → Prop} {rr : Bool} {N ro rt : Nat} (hN : N = bs.length + m.length) (hro : ro ≤ id) {c n : Int} {s : List UInt8}
    (h : ∀ x, VRepO (.mk c n s []) x → Post x ⟨ST bs id l k ++ m, ts⟩) :
    wSt (LFE env 11 0 ro rt) ⟨ST bs id l k ++ (m ++ [[I64 0, I64 0, SS [], .capped []]]), ts⟩ 4 (.ptr (bs.length + m.length) 0) (.agg [I64 c, I64 n, SS s, .capped []]) fun s1 => wLd env s1 (some 4) (.ptr (bs.length + m.length) 0) fun r => QM rr N Post r s1 := by
  have hlt := hB.lt
  simp [wNew, wBox, wCond, wBuild, fillS, wO, setCells, wSt, wLd, wPart, LFE, wFad, alive, wInt, wStr, wGK, wGd, wPick, wExt, wLen, wSlen, wNot, wNil, okI, ceI, okB, ceB, okS, ceS, okL, ceL, okC, ceC, okO, ceO, okP, ceP, okG, ceG, okE, ceE, okR, ceR, okF, ceF, okX, ceX, okM, ceM, okN, ceN, okNf, ceNf, okNi, ceNi, ceA, roL, roC, roO, leL, leC, leO, tpP, tpC, tpO, clP, clC, clO, clF, clA, clT, clN, clL, nbP, nbC, nbO, nbN, nbL, toPVs, loc_get0, loc_set0, show ro ≤ bs.length + m.length by omega]
  exact QM_val (es := []) hB hm hN (by rw [rowsV_nil]; exact .inl (.capped _)) h

mutual
theorem eqV_row : ∀ v : Val, eqPL (rowV v) (rowV v) = true
  | .mk k n s es => by simp [rowV, eqPL, eqP, eqV_int, eqV_str, eqV_rows es]
theorem eqV_rows : ∀ l : List Val, eqPLL (rowsV l) (rowsV l) = true
  | [] => by simp [rowsV, eqPLL]
  | v :: l => by simp [rowsV, eqPLL, eqV_row v, eqV_rows l]
end

theorem Apd.eqA {lo : Nat} {ts : List (Nat × Nat)} {k : Nat} {a : AV} {es : List Val} (h : Apd lo ts k a (rowsV es)) : Tel.eqA a a = true := by
  rcases h with rfl | ⟨t, rfl, _⟩
  · simp [Tel.eqA, eqV_rows]
  · simp [Tel.eqA, eqV_rows]

theorem rowV_ok (v : Val) : ((rowV v).map AV.pv).all okCell = true := by cases v; simp [rowV, okI, okS, okL]

theorem rowsV_append (l m : List Val) : rowsV (l ++ m) = rowsV l ++ rowsV m := by simp [rowsV_eq]

theorem rowsV_row {l : List Val} {r : List PV} (h : r ∈ rowsV l) : r.length = 4 := by
  rw [rowsV_eq] at h
  obtain ⟨v, _, rfl⟩ := List.mem_map.1 h
  exact rowV_len v

theorem okVs_append : ∀ {l m : List Val}, okVs l → okVs m → okVs (l ++ m)
  | [], m, _, h => h
  | v :: l, m, h, h' => by
    simp only [okVs, List.cons_append] at h ⊢
    exact ⟨h.1, okVs_append h.2 h'⟩

section
variable {bs : List (List AV)} {id : Nat} {l : List Int} {m : List (List AV)} {o d : Int} {ro rt : Nat} {ts : List (Nat × Nat)} {rr : Bool} {N k0 : Nat} {Post : AV → Sto → Prop}

/-- The loop that makes a tuple's elements. -/
theorem value_loop (hB : Base bs id l) (hm : LocB bs m) (hro : ro ≤ id) (hrt : rt ≤ ts.length) (hd : 0 < d) (hd2 : d < 100) (hN : N = bs.length + m.length)
    (ih : ∀ {m' : List (List AV)}, LocB bs m' → ∀ {k : Nat}, k ≤ l.length → ∀ (L : Lim), L.ro ≤ id → ∀ (ts' : List (Nat × Nat)), L.rt ≤ ts'.length →
      ∃ v s', (∃ val k' x, VRepO val v ∧ okV val ∧ k ≤ k' ∧ k' ≤ l.length ∧ s' = ⟨ST bs id l k' ++ m', ts' ++ x⟩) ∧ CallE env L 11 [.ptr id 0, I64 o, I64 (d - 1)] ⟨ST bs id l k ++ m', ts'⟩ v s')
    (hP : ∀ val v k' ts', VRepO val v → okV val → k0 ≤ k' → k' ≤ l.length → Post v ⟨ST bs id l k' ++ m, ts ++ ts'⟩) :
    ∀ (i k : Nat) (x : List (Nat × Nat)) (a : AV) (es : List Val), k0 ≤ k → k ≤ l.length → es.length + i ≤ 3 → okVs es → Apd ts.length (ts ++ x) 27 a (rowsV es) →
      P11_2 0 ro rt (.ptr id 0) (I64 o) (I64 d) (.ptr (bs.length + m.length) 0) (.ptr (bs.length + m.length + 1) 0) (I64 i) ⟨ST bs id l k ++ (m ++ [[I64 0, I64 0, SS [], .capped []], [I64 4, I64 0, SS [], a]]), ts ++ x⟩ (QM rr N Post) := by
  have hlt := hB.lt
  intro i
  induction i with
  | zero =>
    intro k x a es hk0 hk hes hok ha
    refine p11_2 ?_
    simp only [wInt, wCond]
    refine ⟨⟨trivial, trivial⟩, by simp, fun _ => p11_4 ?_⟩
    have ho := ha.rowsO
    simp [wNew, wBox, wCond, wBuild, fillS, wO, setCells, wSt, wLd, wPart, LFE, wFad, alive, wInt, wStr, wGK, wGd, wPick, wExt, wLen, wSlen, wNot, wNil, okI, ceI, okB, ceB, okS, ceS, okL, ceL, okC, ceC, okO, ceO, okP, ceP, okG, ceG, okE, ceE, okR, ceR, okF, ceF, okX, ceX, okM, ceM, okN, ceN, okNf, ceNf, okNi, ceNi, ceA, roL, roC, roO, leL, leC, leO, tpP, tpC, tpO, clP, clC, clO, clF, clA, clT, clN, clL, nbP, nbC, nbO, nbN, nbL, toPVs, loc_get, loc_get0, loc_set, loc_set0, ho.ok, ho.noBlk, show ro ≤ bs.length + m.length by omega]
    refine QM_val hB hm hN ho fun y hy => hP (.mk 4 0 [] es) y k x hy ?_ hk0 hk
    simp [okV]
    exact ⟨by omega, hok⟩
  | succ i ihi =>
    intro k x a es hk0 hk hes hok ha
    refine p11_2 ?_
    have ho := ha.rowsO
    have hpos : ((i + 1 : Nat) : Int) > 0 := by omega
    simp only [wInt, wCond, hpos, decide_true]
    refine ⟨⟨trivial, trivial⟩, fun _ => p11_3 ?_, by simp⟩
    have hm2 : LocB bs (m ++ [[I64 0, I64 0, SS [], .capped []], [I64 4, I64 0, SS [], a]]) := locB_push hm (by simp [idsLtL, idsLt, ho.idsLt])
    simp [wNew, wBox, wCond, wBuild, fillS, wO, setCells, wSt, wLd, wPart, LFE, wFad, alive, wInt, wStr, wGK, wGd, wPick, wExt, wLen, wSlen, wNot, wNil, okI, ceI, okB, ceB, okS, ceS, okL, ceL, okC, ceC, okO, ceO, okP, ceP, okG, ceG, okE, ceE, okR, ceR, okF, ceF, okX, ceX, okM, ceM, okN, ceN, okNf, ceNf, okNi, ceNi, ceA, roL, roC, roO, leL, leC, leO, tpP, tpC, tpO, clP, clC, clO, clF, clA, clT, clN, clL, nbP, nbC, nbO, nbN, nbL, toPVs, loc_get, loc_get0, loc_set, loc_set0]
    refine wAri_fit (by omega) (by omega) ?_
    refine wCall_do (ih hm2 hk _ hro (ts ++ x) (by simp; omega)) ?_
    rintro v s1 ⟨val, k2, x2, hv, hokv, hk2, hk3, rfl⟩
    have hrep := hv
    obtain ⟨c, n, s, ev⟩ := val
    obtain ⟨b, rfl, hb⟩ := hv
    simp only [okV] at hokv
    simp [wBsl, repl, wNew, wBox, wCond, wBuild, fillS, wO, setCells, wSt, wLd, wPart, LFE, wFad, alive, wInt, wStr, wGK, wGd, wPick, wExt, wLen, wSlen, wNot, wNil, okI, ceI, okB, ceB, okS, ceS, okL, ceL, okC, ceC, okO, ceO, okP, ceP, okG, ceG, okE, ceE, okR, ceR, okF, ceF, okX, ceX, okM, ceM, okN, ceN, okNf, ceNf, okNi, ceNi, ceA, roL, roC, roO, leL, leC, leO, tpP, tpC, tpO, clP, clC, clO, clF, clA, clT, clN, clL, nbP, nbC, nbO, nbN, nbL, toPVs, hb.ok, hb.toPV, loc_get, loc_get0, loc_set, loc_set0]
    have hrow : rowsBy 4 1 [PV.sc (.int .i64 c), .sc (.int .i64 n), .sc (.string ⟨s.toArray⟩), .list (rowsV ev)] = [rowV (.mk c n s ev)] := by simp [rowsBy, rowV]
    rw [hrow]
    have ha2 : Apd ts.length (ts ++ (x ++ x2)) 27 a (rowsV es) := by
      rw [← List.append_assoc]
      exact ha.grow
    refine wApp_row ha2 hrt (fun r hr => rowsV_row hr) (rowV_len _) (by omega) (rowV_ok _) (by simp [rowsV_eq]; omega) (by simp [rowsV_eq]; omega) ?_
    intro a' x' ha'
    have ho' := ha'.rowsO
    simp [wNew, wBox, wCond, wBuild, fillS, wO, setCells, wSt, wLd, wPart, LFE, wFad, alive, wInt, wStr, wGK, wGd, wPick, wExt, wLen, wSlen, wNot, wNil, okI, ceI, okB, ceB, okS, ceS, okL, ceL, okC, ceC, okO, ceO, okP, ceP, okG, ceG, okE, ceE, okR, ceR, okF, ceF, okX, ceX, okM, ceM, okN, ceN, okNf, ceNf, okNi, ceNi, ceA, roL, roC, roO, leL, leC, leO, tpP, tpC, tpO, clP, clC, clO, clF, clA, clT, clN, clL, nbP, nbC, nbO, nbN, nbL, toPVs, loc_get, loc_get0, loc_set, loc_set0, ho'.ok, ho'.cells, ho'.noBlk, show ro ≤ bs.length + m.length + 1 by omega]
    refine ⟨by simp [eqA], ?_, ?_⟩
    · simpa [Apd.eqA] using Apd.eqA ha
    refine p11_5 ?_
    simp only [wInt]
    refine ⟨⟨trivial, trivial⟩, wAri_fit (by omega) (by omega) ?_⟩
    have e : (i : Int) + 1 - 1 = i := by omega
    rw [e]
    have ha3 : Apd ts.length (ts ++ x') 27 a' (rowsV (es ++ [.mk c n s ev])) := by
      rw [rowsV_append]
      simpa [rowsV] using ha'
    exact ihi k2 x' a' (es ++ [.mk c n s ev]) (by omega) hk3 (by simp; omega) (okVs_append hok (by simp [okVs, okV, hokv])) ha3

end

def strT : List (List UInt8) := [[], [97, 32, 98], [113, 117, 111, 116, 101, 32, 34, 32, 97, 110, 100, 32, 92], [126], [40, 110, 111, 116, 32, 97, 32, 108, 105, 115, 116, 41], [59, 32, 110, 111, 32, 99, 111, 109, 109, 101, 110, 116]]
def strRows (l : List (List UInt8)) : List (List PV) := l.map fun s => [.sc (.string ⟨s.toArray⟩)]

theorem glob0 : env.G 0 = some [.list (strRows strT)] := by kernel_rfl
theorem strRows_len (l : List (List UInt8)) : (strRows l).length = l.length := by simp [strRows]

theorem ld_glob0 {s : Sto} {K : AV → Prop} (h : K (.pv (.list (strRows strT)))) : wLd env s none (.gptr 0 0) K := by
  simp [wLd, glob0, wO, wPart]
  exact h

theorem eq_strRows : ∀ l : List (List UInt8), eqPLL (strRows l) (strRows l) = true
  | [] => by simp [strRows, eqPLL]
  | s :: l => by
    have := eq_strRows l
    simp only [strRows, List.map_cons, eqPLL, eqPL, eqP, eqV_str, Bool.true_and, Bool.and_true] at this ⊢
    exact this

theorem strT_short : ∀ s ∈ strT, s.length < 2 ^ 61 := by decide

theorem wSt_and {L : Lim} {s : Sto} {k : Nat} {a x : AV} {K : Sto → Prop} {C : Prop} (hC : C) (h : wSt L s k a x K) : wSt L s k a x fun s => C ∧ K s := by
  unfold wSt at h ⊢
  split at h
  · obtain ⟨cs, h1, h2, h3⟩ := wO_inv h
    simp only [wO, h1]
    exact ⟨h2, hC, h3⟩
  · exact h

theorem value_spec {bs : List (List AV)} {id : Nat} {l : List Int} (hB : Base bs id l) {o : Int} (ho : 0 ≤ o) (ho2 : o < 2 ^ 60) : ∀ (d : Nat), d < 100 → ∀ {m : List (List AV)}, LocB bs m → ∀ {k : Nat}, k ≤ l.length → ∀ (L : Lim), L.ro ≤ id → ∀ (ts : List (Nat × Nat)), L.rt ≤ ts.length →
    ∃ v s', (∃ val k' ts', VRepO val v ∧ okV val ∧ k ≤ k' ∧ k' ≤ l.length ∧ s' = ⟨ST bs id l k' ++ m, ts ++ ts'⟩) ∧ CallE env L 11 [.ptr id 0, I64 o, I64 d] ⟨ST bs id l k ++ m, ts⟩ v s' := by
  intro d
  induction d using Nat.strongRecOn with
  | ind d ih =>
    intro hd m hm k hk L hro ts hrt
    have hlen := hB.len
    have hlt := hB.lt
    suffices H : ∀ (rr : Bool) (N : Nat) (Post : AV → Sto → Prop), N = bs.length + m.length → (∀ val v k' ts', VRepO val v → okV val → k ≤ k' → k' ≤ l.length → Post v ⟨ST bs id l k' ++ m, ts ++ ts'⟩) → P11_0 0 L.ro L.rt (.ptr id 0) (I64 o) (I64 d) ⟨ST bs id l k ++ m, ts⟩ (QM rr N Post) from
      m11 (by simp [noIdL, noId]) (H _ _ _ (by simp [ST_len]) fun val v k' ts' h1 h2 h3 h4 => ⟨val, k', ts', h1, h2, h3, h4, rfl⟩)
    intro rr N Post hN hP
    have hP0 : ∀ c n s k', okV (.mk c n s []) → k ≤ k' → k' ≤ l.length → ∀ x, VRepO (.mk c n s []) x → Post x ⟨ST bs id l k' ++ m, ts⟩ := fun c n s k' h1 h2 h3 x hx => by
      have := hP _ x k' [] hx h1 h2 h3
      simpa using this
    have hm' : LocB bs (m ++ [[I64 0, I64 0, SS [], .capped []]]) := locB_push hm (by simp [idsLtL, idsLt])
    have okn : ∀ c n, okV (.mk c n [] []) := fun c n => by simp [okV, okVs]
    -- the part behind the cases
    have tail : ∀ k1, k ≤ k1 → k1 ≤ l.length → wInt .i64 .leq (I64 d) (I64 0) fun a67 =>
        wCond a67 (
        wBuild [(I64 0), (I64 0), (SS []), (.capped [])] [(0, 1, (I64 1)), (1, 1, (I64 1))] fun a68 =>
        wSt (LFE env 11 0 L.ro L.rt) ⟨ST bs id l k1 ++ (m ++ [[I64 0, I64 0, SS [], .capped []]]), ts⟩ 4 (.ptr (bs.length + m.length) 0) a68 fun s1x28 =>
        wLd env s1x28 (some 4) (.ptr (bs.length + m.length) 0) fun rx29 =>
        QM rr N Post rx29 s1x28) (
        P11_1 0 L.ro L.rt (.ptr id 0) (I64 o) (I64 d) (.ptr (bs.length + m.length) 0) ⟨ST bs id l k1 ++ (m ++ [[I64 0, I64 0, SS [], .capped []]]), ts⟩ (QM rr N Post)) := by
      intro k1 hk1 hk2
      by_cases hd0 : d = 0
      · subst hd0
        simp only [wInt, wCond]
        refine ⟨⟨trivial, trivial⟩, fun _ => ?_, by simp⟩
        simp only [wBuild, fillS, wO, ceI, setCells, List.length_cons, List.length_nil, List.all_cons, List.all_nil, okI]
        simp
        exact value_leaf hB hm hN hro (hP0 1 1 [] k1 (okn _ _) hk1 hk2)
      · have h0 : ¬ ((d : Int) ≤ 0) := by omega
        simp only [wInt, wCond, h0, decide_false]
        refine ⟨⟨trivial, trivial⟩, by simp, fun _ => p11_1 ?_⟩
        simp [wNew, wBox, wCond, wBuild, fillS, wO, setCells, wSt, wLd, wPart, LFE, wFad, alive, wInt, wStr, wGK, wGd, wPick, wExt, wLen, wSlen, wNot, wNil, okI, ceI, okB, ceB, okS, ceS, okL, ceL, okC, ceC, okO, ceO, okP, ceP, okG, ceG, okE, ceE, okR, ceR, okF, ceF, okX, ceX, okM, ceM, okN, ceN, okNf, ceNf, okNi, ceNi, ceA, roL, roC, roO, leL, leC, leO, tpP, tpC, tpO, clP, clC, clO, clF, clA, clT, clN, clL, nbP, nbC, nbO, nbN, nbL, toPVs, loc_get, loc_get0, loc_set, loc_set0, ST_len]
        have e1 : ∀ z : List AV, (ST bs id l k1 ++ (m ++ [[I64 0, I64 0, SS [], .capped []], z]))[bs.length + (m.length + 1)]? = some z := fun z => by
          have := loc_get (bs := bs) (id := id) (l := l) k1 m [[I64 0, I64 0, SS [], .capped []], z] 1
          simpa [Nat.add_assoc] using this
        have e2 : ∀ z y : List AV, (ST bs id l k1 ++ (m ++ [[I64 0, I64 0, SS [], .capped []], z])).set (bs.length + (m.length + 1)) y = ST bs id l k1 ++ (m ++ [[I64 0, I64 0, SS [], .capped []], y]) := fun z y => by
          have := loc_set (bs := bs) (id := id) (l := l) k1 m [[I64 0, I64 0, SS [], .capped []], z] 1 y
          simpa [Nat.add_assoc] using this
        simp [e1, e2, wNew, wBox, wCond, wBuild, fillS, wO, setCells, wSt, wLd, wPart, LFE, wFad, alive, wInt, wStr, wGK, wGd, wPick, wExt, wLen, wSlen, wNot, wNil, okI, ceI, okB, ceB, okS, ceS, okL, ceL, okC, ceC, okO, ceO, okP, ceP, okG, ceG, okE, ceE, okR, ceR, okF, ceF, okX, ceX, okM, ceM, okN, ceN, okNf, ceNf, okNi, ceNi, ceA, roL, roC, roO, leL, leC, leO, tpP, tpC, tpO, clP, clC, clO, clF, clA, clT, clN, clL, nbP, nbC, nbO, nbN, nbL, toPVs, show L.ro ≤ bs.length + (m.length + 1) by omega]
        have hm2 : LocB bs (m ++ [[I64 0, I64 0, SS [], .capped []], [I64 4, I64 0, SS [], .capped []]]) := locB_push hm (by simp [idsLtL, idsLt])
        refine wCall_do (next_spec (n := 3) hB hm2 hk2 (by omega) (by omega) _ (by exact hro) ts) ?_
        rintro v s1 ⟨r, k2, rfl, hr1, hr2, hk3, hk4, rfl⟩
        obtain ⟨j, rfl⟩ := Int.eq_ofNat_of_zero_le hr1
        have ihd := @ih (d - 1) (by omega) (by omega)
        have e3 : ((d - 1 : Nat) : Int) = (d : Int) - 1 := by omega
        rw [e3] at ihd
        have := value_loop (rr := rr) (N := N) (Post := Post) (k0 := k) (ts := ts) (d := d) (o := o) (ro := L.ro) (rt := L.rt) hB hm hro hrt (by omega) (by omega) hN (fun {m'} h1 {k'} h2 L' h3 ts' h4 => ihd h1 h2 L' h3 ts' h4) hP j k2 [] (.capped []) [] (by omega) hk4 (by simp; omega) (by simp [okVs]) (.inl (by rw [rowsV_nil]))
        simpa [Nat.add_assoc] using this
    refine p11_0 ?_
    simp only [wNew, List.append_assoc, List.length_append, ST_len]
    refine wCall_do (next_spec hB hm' hk (by omega) (by omega) _ (by simpa [LFE] using hro) ts) ?_
    rintro v s1 ⟨r, k1, rfl, hr1, hr2, hk1, hk2, rfl⟩
    by_cases h3 : r < 3
    · simp only [wInt, wCond, h3, decide_true]
      refine ⟨⟨trivial, trivial⟩, fun _ => ?_, by simp⟩
      refine wCall_do (next_spec hB hm' hk2 (by omega) (by omega) _ (by simpa [LFE] using hro) ts) ?_
      rintro v s1 ⟨r2, k2, rfl, hr3, hr4, hk3, hk4, rfl⟩
      simp only [wInt]
      refine ⟨⟨trivial, trivial⟩, wAri_fit (by omega) (by omega) ?_⟩
      simp only [wBuild, fillS, wO, ceI, setCells, List.length_cons, List.length_nil, List.all_cons, List.all_nil, okI]
      simp
      exact value_leaf hB hm hN hro (hP0 1 (r2 - 4) [] k2 (okn _ _) (by omega) hk4)
    simp only [wInt, wCond, h3, decide_false]
    refine ⟨⟨trivial, trivial⟩, by simp, fun _ => ?_⟩
    by_cases h4 : r = 3
    · subst h4
      simp
      simp only [wBuild, fillS, wO]
      exact value_leaf hB hm hN hro (hP0 0 0 [] k1 (okn _ _) (by omega) hk2)
    have f4 : (r == 3) = false := by simpa using h4
    simp only [f4]
    refine ⟨⟨trivial, trivial⟩, by simp, fun _ => ?_⟩
    by_cases h5 : r = 4
    · subst h5
      simp
      refine wCall_do (next_spec hB hm' hk2 (by omega) (by omega) _ (by simpa [LFE] using hro) ts) ?_
      rintro v s1 ⟨r2, k2, rfl, hr3, hr4, hk3, hk4, rfl⟩
      have e : r2.tdiv 4 = r2 / 4 := Int.tdiv_eq_ediv_of_nonneg hr3
      simp only [e]
      refine ⟨⟨trivial, trivial⟩, by omega, wAri_fit (by omega) (by omega) ?_⟩
      simp only [wBuild, fillS, wO, ceI, setCells, List.length_cons, List.length_nil, List.all_cons, List.all_nil, okI]
      simp
      exact value_leaf hB hm hN hro (hP0 2 (r2 / 4) [] k2 (okn _ _) (by omega) hk4)
    have f5 : (r == 4) = false := by simpa using h5
    simp only [f5]
    refine ⟨⟨trivial, trivial⟩, by simp, fun _ => ?_⟩
    by_cases h6 : r = 5
    · subst h6
      refine ⟨⟨trivial, trivial⟩, fun _ => ?_, by simp⟩
      refine ld_glob0 (ld_glob0 ?_)
      simp only [wLen, leL, wO, strRows_len]
      refine wCall_do (next_spec (n := strT.length) hB hm' hk2 (by decide) (by decide) _ (by simpa [LFE] using hro) ts) ?_
      rintro v s1 ⟨r2, k2, rfl, hr3, hr4, hk3, hk4, rfl⟩
      obtain ⟨c, hc⟩ : ∃ c, strT[r2.toNat]? = some c := ⟨_, List.getElem?_eq_getElem (by omega)⟩
      refine wIdx_rows (.list _) (row := [.sc (.string ⟨c.toArray⟩)]) hr3 (by simp [strRows, hc]) rfl (by omega) ?_
      have okc : okV (.mk 3 0 c []) := by
        simp only [okV, okVs]
        exact ⟨strT_short c (List.mem_of_getElem? hc), by simp, trivial⟩
      have leaf := value_leaf (rt := L.rt) (rr := rr) hB hm hN hro (hP0 3 0 c k2 okc (by omega) hk4)
      have hld : ∀ K : AV → Prop, K (SS c) → wLd env ⟨ST bs id l k2 ++ (m ++ [[I64 0, I64 0, SS [], .capped []]]), ts⟩ none (.eptr [.sc (.string ⟨c.toArray⟩)] 0) K := fun K h => by simpa [wLd, wPart, wO] using h
      refine hld _ ?_
      simp only [wBuild, fillS, wO, ceI, ceS, setCells, List.length_cons, List.length_nil, List.all_cons, List.all_nil, okI, okS]
      simp only [List.set_cons_zero, List.set_cons_succ, List.length_cons, List.length_nil, Bool.and_true, Nat.le_refl, and_true, and_self, if_true, Nat.reduceAdd, Nat.reduceLeDiff]
      refine wSt_and (ld_glob0 ?_) leaf
      simp [eqA, eqP, eq_strRows]
    have f6 : (r == 5) = false := by simpa using h6
    simp only [f6]
    refine ⟨⟨trivial, trivial⟩, by simp, fun _ => ?_⟩
    by_cases h7 : r < 9
    · simp only [h7, decide_true]
      refine ⟨⟨trivial, trivial⟩, fun _ => ?_, by simp⟩
      refine ⟨⟨trivial, trivial⟩, wAri_fit (by omega) (by omega) ?_⟩
      refine wCall_do (next_spec hB hm' hk2 (by omega) (by omega) _ (by simpa [LFE] using hro) ts) ?_
      rintro v s1 ⟨r2, k2, rfl, hr3, hr4, hk3, hk4, rfl⟩
      simp only [wBuild, fillS, wO, ceI, setCells, List.length_cons, List.length_nil, List.all_cons, List.all_nil, okI]
      simp
      exact value_leaf hB hm hN hro (hP0 5 r2 [] k2 (okn _ _) (by omega) hk4)
    simp only [h7, decide_false]
    refine ⟨⟨trivial, trivial⟩, by simp, fun _ => ?_⟩
    by_cases h8 : r = 9
    · subst h8
      simp [wGK, wGd]
      refine wCall_do (next_spec hB hm' hk2 (by omega) (by omega) _ (by simpa [LFE] using hro) ts) ?_
      rintro v s1 ⟨r2, k2, rfl, hr3, hr4, hk3, hk4, rfl⟩
      by_cases h9 : r2 = 0
      · subst h9
        simp [wPick]
        simp [wBsl, repl, wNew, wBox, wCond, wBuild, fillS, wO, setCells, wSt, wLd, wPart, LFE, wFad, alive, wInt, wStr, wGK, wGd, wPick, wExt, wLen, wSlen, wNot, wNil, okI, ceI, okB, ceB, okS, ceS, okL, ceL, okC, ceC, okO, ceO, okP, ceP, okG, ceG, okE, ceE, okR, ceR, okF, ceF, okX, ceX, okM, ceM, okN, ceN, okNf, ceNf, okNi, ceNi, ceA, roL, roC, roO, leL, leC, leO, tpP, tpC, tpO, clP, clC, clO, clF, clA, clT, clN, clL, nbP, nbC, nbO, nbN, nbL, toPVs, rowsBy]
        refine wCall_do (next_spec (n := 6) hB hm' hk4 (by omega) (by omega) _ (by exact hro) ts) ?_
        rintro v s1 ⟨r3, k3, rfl, hr5, hr6, hk5, hk6, rfl⟩
        obtain ⟨c, hc⟩ : ∃ c : Int, ([-1, 1, 2, 5, 6, 7] : List Int)[r3.toNat]? = some c := ⟨_, List.getElem?_eq_getElem (by simp; omega)⟩
        have hrw : ([[PV.sc (.int .i64 (-1))], [.sc (.int .i64 1)], [.sc (.int .i64 2)], [.sc (.int .i64 5)], [.sc (.int .i64 6)], [.sc (.int .i64 7)]] : List (List PV)) = ([-1, 1, 2, 5, 6, 7] : List Int).map fun n => [.sc (.int .i64 n)] := rfl
        have hix : ∀ (s : Sto) (K : AV → Prop), K (.eptr [.sc (.int .i64 c)] 0) → wIdx s 1 (.capped [[PV.sc (.int .i64 (-1))], [.sc (.int .i64 1)], [.sc (.int .i64 2)], [.sc (.int .i64 5)], [.sc (.int .i64 6)], [.sc (.int .i64 7)]]) (I64 r3) K := fun s K h =>
          wIdx_rows (.capped _) (row := [.sc (.int .i64 c)]) hr5 (by rw [hrw, List.getElem?_map, hc]; rfl) rfl (by omega) h
        refine hix _ _ ?_
        simp only [List.map_cons, List.map_nil, List.getElem?_cons_zero]
        refine wCall_do (raw_spec hB hm' hk6 _ (by exact hro) ts) ?_
        rintro v s1 ⟨r4, k4, rfl, hk7, hk8, rfl⟩
        have leaf := value_leaf (rt := L.rt) (rr := rr) hB hm hN hro (hP0 c r4 [] k4 (okn _ _) (by omega) hk8)
        simp [wNew, wBox, wCond, wBuild, fillS, wO, setCells, wSt, wLd, wPart, LFE, wFad, alive, wInt, wStr, wGK, wGd, wPick, wExt, wLen, wSlen, wNot, wNil, okI, ceI, okB, ceB, okS, ceS, okL, ceL, okC, ceC, okO, ceO, okP, ceP, okG, ceG, okE, ceE, okR, ceR, okF, ceF, okX, ceX, okM, ceM, okN, ceN, okNf, ceNf, okNi, ceNi, ceA, roL, roC, roO, leL, leC, leO, tpP, tpC, tpO, clP, clC, clO, clF, clA, clT, clN, clL, nbP, nbC, nbO, nbN, nbL, toPVs, loc_get0, loc_set0] at leaf ⊢
        refine ⟨leaf.1, hix _ _ (by simp [eqA, eqPL, eqP, eqV_int]), by simp [eqA, eqP, eqV_int], leaf.2⟩
      · have f9 : (r2 == 0) = false := by simpa using h9
        simp [wPick, f9]
        simpa [wInt, wCond] using tail k2 (by omega) hk4
    · have f8 : (r == 9) = false := by simpa using h8
      simp [f8, wGK, wGd, wPick]
      simpa [wInt, wCond] using tail k1 (by omega) hk2

end Go.Proofs.YtdbilmjamgjkeaaGreatDoor

/-
  The law ValuePrimitives, but for its sanity check.
-/
namespace Go.Proofs.YtdbilmjamgjkeaaGreatDoor
open Go.Tel

theorem okV_prim (op : Int) (a b : Val) : okV (prim op a b).1 := by
  obtain ⟨k, n, s, es⟩ := a
  obtain ⟨k', n', s', es'⟩ := b
  have z : ∀ c n, okV (.mk c n [] []) := fun c n => by simp [okV, okVs]
  simp only [prim]
  split
  · cases (k == 1 && k' == 1) <;> exact z _ _
  split
  · cases (k == 1 && k' == 1) <;> exact z _ _
  split
  · cases (k == 1 && k' == 1) <;> exact z _ _
  split
  · cases (k == 1 && k' == 1) <;> exact z _ _
  split
  · cases (k == 2 && (n == 0 || n == 1)) <;> exact z _ _
  split
  · cases (k == 3 && k' == 3)
    · exact z _ _
    · cases h : decide ((s.length : Int) + s'.length > 2000)
      · simp only [cond_true, cond_false, okV, okVs]
        simp at h
        simp
        omega
      · exact z _ _
  split
  · exact z _ _
  · exact z _ _

theorem VRepO.closed {v : Val} {x : AV} (h : VRepO v x) : ∃ x', close [] 0 0 x = some x' ∧ VRep v x' ∧ close [] 0 0 x' = some x' := by
  obtain ⟨k, n, s, es⟩ := v
  obtain ⟨a, rfl, ha⟩ := h
  obtain ⟨a', h1, h2⟩ := ha.closed [] 0
  exact ⟨.agg [I64 k, I64 n, SS s, a'], by simp [clA, clL, clN, clP, h1], ⟨a', rfl, h2⟩, by simp [clA, clL, clN, clP, h2.close]⟩

theorem VRep.repO {v : Val} {x : AV} (h : VRep v x) : VRepO v x := by
  obtain ⟨k, n, s, es⟩ := v
  obtain ⟨a, rfl, ha⟩ := h
  exact ⟨a, rfl, .inl ha⟩

theorem primO (op : Int) {a b : Val} (ha : okV a) {x y : AV} (hx : VRepO a x) (hy : VRepO b y) (hb : okV b) : PureC env 13 [I64 op, x, y] (PrimPost op a b) := by
  obtain ⟨x', h1, h2, h3⟩ := hx.closed
  obtain ⟨y', g1, g2, g3⟩ := hy.closed
  exact PureC.of_closed (by kernel_rfl) (by kernel_rfl) (args' := [I64 op, x', y']) (by simp [clL, clN, clP, h1, g1]) (by simp [clL, clN, clP, h3, g3]) (primitive_spec op ha h2 g2 hb)

theorem rprimO (op : Int) {a b : Val} (ha : okV a) {x y : AV} (hx : VRepO a x) (hy : VRepO b y) (hb : okV b) : PureC env 14 [I64 op, x, y] (PrimPost op a b) := by
  obtain ⟨x', h1, h2, h3⟩ := hx.closed
  obtain ⟨y', g1, g2, g3⟩ := hy.closed
  exact PureC.of_closed (by kernel_rfl) (by kernel_rfl) (args' := [I64 op, x', y']) (by simp [clL, clN, clP, h1, g1]) (by simp [clL, clN, clP, h3, g3]) (rprimitive_spec op ha h2 g2 hb)

theorem new_spec (l : List Int) (L : Lim) (s : Sto) : ∃ v s', (v = .ptr s.bs.length 0 ∧ s' = ⟨s.bs ++ [StB l 0], s.ts⟩) ∧ CallE env L 10 [.pv (.list (intRows l))] s v s' := by
  refine m10 (p10_0 ?_)
  simp [wNew, wBox, wCond, wBuild, fillS, wO, setCells, wSt, wLd, wPart, LFE, wFad, alive, wInt, wStr, wGK, wGd, wPick, wExt, wLen, wSlen, wNot, wNil, okI, ceI, okB, ceB, okS, ceS, okL, ceL, okC, ceC, okO, ceO, okP, ceP, okG, ceG, okE, ceE, okR, ceR, okF, ceF, okX, ceX, okM, ceM, okN, ceN, okNf, ceNf, okNi, ceNi, ceA, roL, roC, roO, leL, leC, leO, tpP, tpC, tpO, clP, clC, clO, clF, clA, clT, clN, clL, nbP, nbC, nbO, nbN, nbL, toPVs, StB]

set_option maxHeartbeats 4000000 in
set_option maxRecDepth 20000 in
theorem law_tail (hcheck : PureC env 16 [] fun v => v = BB true) (op : Int) {a b : Val} (ha : okV a) (hb : okV b) {x y : AV} (hx : VRepO a x) (hy : VRepO b y) (c : List AV) (ts : List (Nat × Nat)) (m1 m2 : Int) (c1 c2 : List UInt8) (h1 : c1.length < 2 ^ 60) (h2 : c2.length < 2 ^ 60) :
    P3_2 0 0 0 (I64 op) (I64 m1) (I64 m2) (SS c1) (SS c2) (.ptr 1 0) (.ptr 2 0) ⟨[c, cellsOf x, cellsOf y], ts⟩ (QP fun v => v = BB true) := by
  have A1 := primO op ha hx hy hb
  have A2 := rprimO op ha hx hy hb
  have z : ∀ c n, okV (.mk c n [] []) := fun c n => by simp [okV, okVs]
  have zs : ∀ c1 : List UInt8, c1.length < 2 ^ 60 → okV (.mk 3 0 c1 []) := fun c1 h => by simp [okV, okVs]; omega
  have B1 := primO op (z 1 m1) (VRep.mk 1 m1 []).repO (VRep.mk 1 m2 []).repO (z 1 m2)
  have B2 := rprimO op (z 1 m1) (VRep.mk 1 m1 []).repO (VRep.mk 1 m2 []).repO (z 1 m2)
  have C1 := primO 6 (zs c1 h1) (VRep.mk 3 0 c1).repO (VRep.mk 3 0 c2).repO (zs c2 h2)
  have C2 := rprimO 6 (zs c1 h1) (VRep.mk 3 0 c1).repO (VRep.mk 3 0 c2).repO (zs c2 h2)
  have oA := okV_prim op a b
  have oB := okV_prim op (.mk 1 m1 [] []) (.mk 1 m2 [] [])
  have oC := okV_prim 6 (.mk 3 0 c1 []) (.mk 3 0 c2 [])
  have EA := valueEqual_spec _ oA
  have EB := valueEqual_spec _ oB
  have EC := valueEqual_spec _ oC
  obtain ⟨k, n, s, es⟩ := a
  obtain ⟨k', n', s', es'⟩ := b
  obtain ⟨p, rfl, hp⟩ := hx
  obtain ⟨q, rfl, hq⟩ := hy
  unfold PrimPost at A1 A2 B1 B2 C1 C2
  generalize eA : (prim op (.mk k n s es) (.mk k' n' s' es')).1 = vA at A1 A2 EA
  generalize (prim op (.mk k n s es) (.mk k' n' s' es')).2 = tA at A1 A2
  generalize eB : (prim op (.mk 1 m1 [] []) (.mk 1 m2 [] [])).1 = vB at B1 B2 EB
  generalize (prim op (.mk 1 m1 [] []) (.mk 1 m2 [] [])).2 = tB at B1 B2
  generalize eC : (prim 6 (.mk 3 0 c1 []) (.mk 3 0 c2 [])).1 = vC at C1 C2 EC
  generalize (prim 6 (.mk 3 0 c1 []) (.mk 3 0 c2 [])).2 = tC at C1 C2
  clear eA eB eC oA oB oC
  obtain ⟨ka, na, sa, esa⟩ := vA
  obtain ⟨kb, nb, sb, esb⟩ := vB
  obtain ⟨kc, nc, sc, esc⟩ := vC
  refine p3_2 ?_
  simp [wNew, wBox, wCond, wBuild, fillS, wO, setCells, wSt, wLd, wPart, LFE, wFad, alive, wInt, wStr, wGK, wGd, wPick, wExt, wLen, wSlen, wNot, wNil, okI, ceI, okB, ceB, okS, ceS, okL, ceL, okC, ceC, okO, ceO, okP, ceP, okG, ceG, okE, ceE, okR, ceR, okF, ceF, okX, ceX, okM, ceM, okN, ceN, okNf, ceNf, okNi, ceNi, ceA, roL, roC, roO, leL, leC, leO, tpP, tpC, tpO, clP, clC, clO, clF, clA, clT, clN, clL, nbP, nbC, nbO, nbN, nbL, toPVs, hp.ok, hq.ok]
  refine wCall_pure A1 ?_
  rintro v ⟨w, rfl, p1, rfl, hp1⟩
  simp [wNew, wBox, wCond, wBuild, fillS, wO, setCells, wSt, wLd, wPart, LFE, wFad, alive, wInt, wStr, wGK, wGd, wPick, wExt, wLen, wSlen, wNot, wNil, okI, ceI, okB, ceB, okS, ceS, okL, ceL, okC, ceC, okO, ceO, okP, ceP, okG, ceG, okE, ceE, okR, ceR, okF, ceF, okX, ceX, okM, ceM, okN, ceN, okNf, ceNf, okNi, ceNi, ceA, roL, roC, roO, leL, leC, leO, tpP, tpC, tpO, clP, clC, clO, clF, clA, clT, clN, clL, nbP, nbC, nbO, nbN, nbL, toPVs, hp1.ok, hp1.noBlk]
  refine p3_3 ?_
  simp [wNew, wBox, wCond, wBuild, fillS, wO, setCells, wSt, wLd, wPart, LFE, wFad, alive, wInt, wStr, wGK, wGd, wPick, wExt, wLen, wSlen, wNot, wNil, okI, ceI, okB, ceB, okS, ceS, okL, ceL, okC, ceC, okO, ceO, okP, ceP, okG, ceG, okE, ceE, okR, ceR, okF, ceF, okX, ceX, okM, ceM, okN, ceN, okNf, ceNf, okNi, ceNi, ceA, roL, roC, roO, leL, leC, leO, tpP, tpC, tpO, clP, clC, clO, clF, clA, clT, clN, clL, nbP, nbC, nbO, nbN, nbL, toPVs, hp.ok, hq.ok]
  refine wCall_pure A2 ?_
  rintro v ⟨w, rfl, p2, rfl, hp2⟩
  simp [wNew, wBox, wCond, wBuild, fillS, wO, setCells, wSt, wLd, wPart, LFE, wFad, alive, wInt, wStr, wGK, wGd, wPick, wExt, wLen, wSlen, wNot, wNil, okI, ceI, okB, ceB, okS, ceS, okL, ceL, okC, ceC, okO, ceO, okP, ceP, okG, ceG, okE, ceE, okR, ceR, okF, ceF, okX, ceX, okM, ceM, okN, ceN, okNf, ceNf, okNi, ceNi, ceA, roL, roC, roO, leL, leC, leO, tpP, tpC, tpO, clP, clC, clO, clF, clA, clT, clN, clL, nbP, nbC, nbO, nbN, nbL, toPVs, hp2.ok, hp2.noBlk]
  refine p3_4 ?_
  refine wCall_pure (num_spec m1) ?_
  rintro v rfl
  refine wCall_pure (num_spec m2) ?_
  rintro v rfl
  refine wCall_pure B1 ?_
  rintro v ⟨w, rfl, p3, rfl, hp3⟩
  simp [wNew, wBox, wCond, wBuild, fillS, wO, setCells, wSt, wLd, wPart, LFE, wFad, alive, wInt, wStr, wGK, wGd, wPick, wExt, wLen, wSlen, wNot, wNil, okI, ceI, okB, ceB, okS, ceS, okL, ceL, okC, ceC, okO, ceO, okP, ceP, okG, ceG, okE, ceE, okR, ceR, okF, ceF, okX, ceX, okM, ceM, okN, ceN, okNf, ceNf, okNi, ceNi, ceA, roL, roC, roO, leL, leC, leO, tpP, tpC, tpO, clP, clC, clO, clF, clA, clT, clN, clL, nbP, nbC, nbO, nbN, nbL, toPVs, hp3.ok, hp3.noBlk]
  refine p3_5 ?_
  refine wCall_pure (num_spec m1) ?_
  rintro v rfl
  refine wCall_pure (num_spec m2) ?_
  rintro v rfl
  refine wCall_pure B2 ?_
  rintro v ⟨w, rfl, p4, rfl, hp4⟩
  simp [wNew, wBox, wCond, wBuild, fillS, wO, setCells, wSt, wLd, wPart, LFE, wFad, alive, wInt, wStr, wGK, wGd, wPick, wExt, wLen, wSlen, wNot, wNil, okI, ceI, okB, ceB, okS, ceS, okL, ceL, okC, ceC, okO, ceO, okP, ceP, okG, ceG, okE, ceE, okR, ceR, okF, ceF, okX, ceX, okM, ceM, okN, ceN, okNf, ceNf, okNi, ceNi, ceA, roL, roC, roO, leL, leC, leO, tpP, tpC, tpO, clP, clC, clO, clF, clA, clT, clN, clL, nbP, nbC, nbO, nbN, nbL, toPVs, hp4.ok, hp4.noBlk]
  refine p3_6 ?_
  simp [wNew, wBox, wCond, wBuild, fillS, wO, setCells, wSt, wLd, wPart, LFE, wFad, alive, wInt, wStr, wGK, wGd, wPick, wExt, wLen, wSlen, wNot, wNil, okI, ceI, okB, ceB, okS, ceS, okL, ceL, okC, ceC, okO, ceO, okP, ceP, okG, ceG, okE, ceE, okR, ceR, okF, ceF, okX, ceX, okM, ceM, okN, ceN, okNf, ceNf, okNi, ceNi, ceA, roL, roC, roO, leL, leC, leO, tpP, tpC, tpO, clP, clC, clO, clF, clA, clT, clN, clL, nbP, nbC, nbO, nbN, nbL, toPVs]
  refine wCall_pure C1 ?_
  rintro v ⟨w, rfl, p5, rfl, hp5⟩
  simp [wNew, wBox, wCond, wBuild, fillS, wO, setCells, wSt, wLd, wPart, LFE, wFad, alive, wInt, wStr, wGK, wGd, wPick, wExt, wLen, wSlen, wNot, wNil, okI, ceI, okB, ceB, okS, ceS, okL, ceL, okC, ceC, okO, ceO, okP, ceP, okG, ceG, okE, ceE, okR, ceR, okF, ceF, okX, ceX, okM, ceM, okN, ceN, okNf, ceNf, okNi, ceNi, ceA, roL, roC, roO, leL, leC, leO, tpP, tpC, tpO, clP, clC, clO, clF, clA, clT, clN, clL, nbP, nbC, nbO, nbN, nbL, toPVs, hp5.ok, hp5.noBlk]
  refine p3_7 ?_
  simp [wNew, wBox, wCond, wBuild, fillS, wO, setCells, wSt, wLd, wPart, LFE, wFad, alive, wInt, wStr, wGK, wGd, wPick, wExt, wLen, wSlen, wNot, wNil, okI, ceI, okB, ceB, okS, ceS, okL, ceL, okC, ceC, okO, ceO, okP, ceP, okG, ceG, okE, ceE, okR, ceR, okF, ceF, okX, ceX, okM, ceM, okN, ceN, okNf, ceNf, okNi, ceNi, ceA, roL, roC, roO, leL, leC, leO, tpP, tpC, tpO, clP, clC, clO, clF, clA, clT, clN, clL, nbP, nbC, nbO, nbN, nbL, toPVs]
  refine wCall_pure C2 ?_
  rintro v ⟨w, rfl, p6, rfl, hp6⟩
  simp [wNew, wBox, wCond, wBuild, fillS, wO, setCells, wSt, wLd, wPart, LFE, wFad, alive, wInt, wStr, wGK, wGd, wPick, wExt, wLen, wSlen, wNot, wNil, okI, ceI, okB, ceB, okS, ceS, okL, ceL, okC, ceC, okO, ceO, okP, ceP, okG, ceG, okE, ceE, okR, ceR, okF, ceF, okX, ceX, okM, ceM, okN, ceN, okNf, ceNf, okNi, ceNi, ceA, roL, roC, roO, leL, leC, leO, tpP, tpC, tpO, clP, clC, clO, clF, clA, clT, clN, clL, nbP, nbC, nbO, nbN, nbL, toPVs, hp6.ok, hp6.noBlk]
  refine p3_8 ?_
  refine wCall_pure hcheck ?_
  rintro v rfl
  simp [wNew, wBox, wCond, wBuild, fillS, wO, setCells, wSt, wLd, wPart, LFE, wFad, alive, wInt, wStr, wGK, wGd, wPick, wExt, wLen, wSlen, wNot, wNil, okI, ceI, okB, ceB, okS, ceS, okL, ceL, okC, ceC, okO, ceO, okP, ceP, okG, ceG, okE, ceE, okR, ceR, okF, ceF, okX, ceX, okM, ceM, okN, ceN, okNf, ceNf, okNi, ceNi, ceA, roL, roC, roO, leL, leC, leO, tpP, tpC, tpO, clP, clC, clO, clF, clA, clT, clN, clL, nbP, nbC, nbO, nbN, nbL, toPVs]
  refine wCall_pure (EA _ _ ⟨p1, rfl, hp1⟩ ⟨p2, rfl, hp2⟩) ?_
  rintro v rfl
  simp [wNew, wBox, wCond, wBuild, fillS, wO, setCells, wSt, wLd, wPart, LFE, wFad, alive, wInt, wStr, wGK, wGd, wPick, wExt, wLen, wSlen, wNot, wNil, okI, ceI, okB, ceB, okS, ceS, okL, ceL, okC, ceC, okO, ceO, okP, ceP, okG, ceG, okE, ceE, okR, ceR, okF, ceF, okX, ceX, okM, ceM, okN, ceN, okNf, ceNf, okNi, ceNi, ceA, roL, roC, roO, leL, leC, leO, tpP, tpC, tpO, clP, clC, clO, clF, clA, clT, clN, clL, nbP, nbC, nbO, nbN, nbL, toPVs]
  refine wCall_pure (EB _ _ ⟨p3, rfl, hp3⟩ ⟨p4, rfl, hp4⟩) ?_
  rintro v rfl
  simp [wNew, wBox, wCond, wBuild, fillS, wO, setCells, wSt, wLd, wPart, LFE, wFad, alive, wInt, wStr, wGK, wGd, wPick, wExt, wLen, wSlen, wNot, wNil, okI, ceI, okB, ceB, okS, ceS, okL, ceL, okC, ceC, okO, ceO, okP, ceP, okG, ceG, okE, ceE, okR, ceR, okF, ceF, okX, ceX, okM, ceM, okN, ceN, okNf, ceNf, okNi, ceNi, ceA, roL, roC, roO, leL, leC, leO, tpP, tpC, tpO, clP, clC, clO, clF, clA, clT, clN, clL, nbP, nbC, nbO, nbN, nbL, toPVs]
  refine wCall_pure (EC _ _ ⟨p5, rfl, hp5⟩ ⟨p6, rfl, hp6⟩) ?_
  rintro v rfl
  simp [wNew, wBox, wCond, wBuild, fillS, wO, setCells, wSt, wLd, wPart, LFE, wFad, alive, wInt, wStr, wGK, wGd, wPick, wExt, wLen, wSlen, wNot, wNil, okI, ceI, okB, ceB, okS, ceS, okL, ceL, okC, ceC, okO, ceO, okP, ceP, okG, ceG, okE, ceE, okR, ceR, okF, ceF, okX, ceX, okM, ceM, okN, ceN, okNf, ceNf, okNi, ceNi, ceA, roL, roC, roO, leL, leC, leO, tpP, tpC, tpO, clP, clC, clO, clF, clA, clT, clN, clL, nbP, nbC, nbO, nbN, nbL, toPVs, QP, QI]

theorem law_spec (hcheck : PureC env 16 [] fun v => v = BB true) (op : Int) (l : List Int) (hl : l.length < 2 ^ 61) (m1 m2 : Int) (c1 c2 : List UInt8) (h1 : c1.length < 2 ^ 60) (h2 : c2.length < 2 ^ 60) :
    PureC env 3 [I64 op, .pv (.list (intRows l)), I64 m1, I64 m2, SS c1, SS c2] fun v => v = BB true := by
  refine e3 (u0 := I64 op) (u1 := .pv (.list (intRows l))) (u2 := I64 m1) (u3 := I64 m2) (u4 := SS c1) (u5 := SS c2) (by simp [clL, clN, clP]) (p3_0 ?_)
  have hB : Base [StB l 0] 0 l := ⟨by simp, by simp [StB_ids], hl⟩
  have hST : ∀ k, Tel.ST [StB l 0] 0 l k = [StB l k] := fun k => by simp [Tel.ST]
  have h0 : LocB [StB l 0] [] := fun b hb => by cases hb
  refine wCall_do (new_spec l _ _) ?_
  rintro v s1 ⟨rfl, rfl⟩
  have V1 := fun (L : Lim) (hro : L.ro ≤ 0) (hrt : L.rt ≤ 0) => value_spec hB (o := 2) (by omega) (by omega) 2 (by omega) h0 (k := 0) (by omega) L hro [] hrt
  have e0 : (⟨Tel.ST [StB l 0] 0 l 0 ++ [], []⟩ : Sto) = ⟨[] ++ [StB l 0], []⟩ := by simp [hST]
  rw [e0] at V1
  refine wCall_do (V1 _ (by simp [LFE]) (by simp [LFE])) ?_
  rintro x s1 ⟨a, k1, x1, hx, ha, _, hk1, rfl⟩
  refine wCall_do (value_spec hB (o := 2) (by omega) (by omega) 2 (by omega) h0 hk1 _ (by simp [LFE]) _ (by simp [LFE])) ?_
  rintro y s1 ⟨b, k2, x2, hy, hb, _, hk2, rfl⟩
  have hx' := hx
  have hy' := hy
  obtain ⟨k, n, s, es⟩ := a
  obtain ⟨k', n', s', es'⟩ := b
  obtain ⟨p, rfl, hp⟩ := hx'
  obtain ⟨q, rfl, hq⟩ := hy'
  simp only [hST]
  simp [wNew, wBox, wCond, wBuild, fillS, wO, setCells, wSt, wLd, wPart, LFE, wFad, alive, wInt, wStr, wGK, wGd, wPick, wExt, wLen, wSlen, wNot, wNil, okI, ceI, okB, ceB, okS, ceS, okL, ceL, okC, ceC, okO, ceO, okP, ceP, okG, ceG, okE, ceE, okR, ceR, okF, ceF, okX, ceX, okM, ceM, okN, ceN, okNf, ceNf, okNi, ceNi, ceA, roL, roC, roO, leL, leC, leO, tpP, tpC, tpO, clP, clC, clO, clF, clA, clT, clN, clL, nbP, nbC, nbO, nbN, nbL, toPVs, hp.ok, hq.ok, hp.noBlk, hq.noBlk]
  have tl := fun op => law_tail hcheck op ha hb hx hy (StB l k2) (x1 ++ x2) m1 m2 c1 c2 h1 h2
  simp only [ceA] at tl
  refine p3_1 ?_
  simp only [wInt, wCond]
  refine ⟨⟨trivial, trivial⟩, by omega, ⟨trivial, trivial⟩, fun _ => ?_, fun _ => tl op⟩
  refine wCall_pure (mod_spec op 9 (by omega) (by omega)) ?_
  rintro v ⟨r, rfl, _, _⟩
  exact tl r

end Go.Proofs.YtdbilmjamgjkeaaGreatDoor
