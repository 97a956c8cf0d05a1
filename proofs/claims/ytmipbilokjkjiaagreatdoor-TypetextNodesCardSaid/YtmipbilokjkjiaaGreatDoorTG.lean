/-
  Streams.
-/
import Derived.Test.YtmipbilokjkjiaaGreatDoorTF
set_option linter.unusedSimpArgs false
set_option linter.unusedVariables false
namespace Go.Proofs.YtmipbilokjkjiaaGreatDoor
open Go.Tel
attribute [local simp] wNew wBox wBoxZ markT wCond wBuild fillS wO setCells wSt wLd wPart LFE wFad alive wInt wStr wGK wGd wPick wExt wLen wSlen wNot wNil okI ceI okB ceB okS ceS okL ceL okC ceC okO ceO okP ceP okG ceG okE ceE okR ceR okF ceF okX ceX okM ceM okN ceN okNf ceNf okNi ceNi ceA roL roC roO leL leC leO tpP tpC tpO clP clC clO clF clA clT clN clL nbP nbC nbO nbN nbL toPVs
section
variable {R : Nat → Option (List PV)}
theorem tmod_gt (a : Int) {b : Int} (hb : 0 < b) : -b < a.tmod b := by
  by_cases ha : 0 ≤ a
  · have := Int.tmod_nonneg b ha
    omega
  · have h1 : (-a).tmod b < b := Int.tmod_lt_of_pos _ hb
    have h2 := Int.neg_tmod a b
    omega
theorem mod_spec (a b : Int) (hb : 0 < b) (hb2 : b < 2 ^ 62) : PureC (env R) 18 [I64 a, I64 b] fun v => ∃ r, v = I64 r ∧ 0 ≤ r ∧ r < b := by
  refine e18 rfl (p18_0 ?_)
  have h1 := Int.tmod_lt_of_pos a hb
  have h2 := tmod_gt a hb
  simp only [wInt, wCond]
  refine ⟨⟨trivial, trivial⟩, by omega, ⟨trivial, trivial⟩, fun h => ?_, fun h => ?_⟩
  · simp at h
    refine ⟨⟨trivial, trivial⟩, wAri_fit (by omega) (by omega) (p18_1 ?_)⟩
    exact ⟨_, clP, _, rfl, by omega, by omega⟩
  · simp at h
    refine p18_1 ?_
    exact ⟨_, clP, _, rfl, by omega, by omega⟩
theorem ST_alive {bs : List (List AV)} {id : Nat} {l : List Int} {k : Nat} {ts : List (Nat × Nat)} (h : id < bs.length) (m : List (List AV)) : alive ⟨ST bs id l k ++ m, ts⟩ id = true := by
  simp [alive, ST_get h, StB]
theorem keep_all {bs : List (List AV)} {id : Nat} {l : List Int} (hB : Base bs id l) {m : List (List AV)} (hm : LocB bs m) (k : Nat) {n : Nat} (hn : n = bs.length + m.length) : (((ST bs id l k ++ m).take n).all (idsLtL n)) = true := by
  rw [List.take_of_length_le (by simp [ST_len]; omega), hn]
  exact hB.all hm k
theorem QM_ST {rr : Bool} {N : Nat} {bs : List (List AV)} {id : Nat} {l : List Int} (hB : Base bs id l) {m : List (List AV)} (hm : LocB bs m) {k : Nat} {ts : List (Nat × Nat)} {Post : AV → Sto → Prop} {p : PV} (hN : N = bs.length + m.length)
    (h : Post (.pv p) ⟨ST bs id l k ++ m, ts⟩) : QM rr N Post (.pv p) ⟨ST bs id l k ++ m, ts⟩ := by
  refine QM_pv (keep_all hB hm k hN) ?_
  have : (ST bs id l k ++ m).take N = ST bs id l k ++ m := List.take_of_length_le (by simp [ST_len]; omega)
  simpa [this] using h
theorem next_spec2 {bs : List (List AV)} {id : Nat} {l : List Int} (hB : Base bs id l) {m : List (List AV)} (hm : LocB bs m) {k : Nat} (hk : k ≤ l.length) {n : Int} (hn : 0 < n) (hn2 : n < 2 ^ 62) (L : Lim) (hro : L.ro ≤ id) (ts : List (Nat × Nat)) :
    ∃ v s', (∃ r k', v = I64 r ∧ 0 ≤ r ∧ r < n ∧ k ≤ k' ∧ k' ≤ l.length ∧ (r ≠ 0 → k < k') ∧ s' = ⟨ST bs id l k' ++ m, ts⟩) ∧ CallE (env R) L 44 [.ptr id 0, I64 n] ⟨ST bs id l k ++ m, ts⟩ v s' := by
  have hlen := hB.len
  have hlt := hB.lt
  suffices H : ∀ (rr : Bool) (N : Nat) (Post : AV → Sto → Prop), N = bs.length + m.length → (∀ r k', 0 ≤ r → r < n → k ≤ k' → k' ≤ l.length → (r ≠ 0 → k < k') → Post (I64 r) ⟨ST bs id l k' ++ m, ts⟩) → P44_0 R 0 L.ro L.rt (.ptr id 0) (I64 n) ⟨ST bs id l k ++ m, ts⟩ (QM rr N Post) from
    m44 (by simp [noIdL, noId]) (H _ _ _ (by simp [ST_len]) fun r k' h1 h2 h3 h4 h5 => ⟨r, k', rfl, h1, h2, h3, h4, h5, rfl⟩)
  intro rr N Post hN hP
  refine p44_0 ?_
  by_cases h : k = l.length
  · have h1 : ((k : Int) ≥ l.length) := by omega
    simp [ST_get hlt, StB, intRows_len, h]
    rw [← h]
    exact QM_ST hB hm hN (hP 0 k (by omega) hn (by omega) (by omega) (by omega))
  · have h1 : ¬ ((l.length : Int) ≤ k) := by omega
    simp [ST_get hlt, StB, intRows_len]
    refine ⟨fun h2 => absurd h2 (by omega), fun _ => ?_⟩
    refine p44_1 ?_
    obtain ⟨a, ha⟩ : ∃ a, l[k]? = some a := ⟨_, List.getElem?_eq_getElem (by omega)⟩
    simp only [wNil, ST_alive hlt, wFad, wLd, wO, ST_get hlt, wInt]
    refine ⟨trivial, trivial, ?_⟩
    simp only [StB, wPart, wO, List.getElem?_cons_succ, List.getElem?_cons_zero, Nat.zero_add]
    refine ⟨⟨trivial, trivial⟩, wAri_fit (by omega) (by omega) ?_⟩
    simp only [wNil, ST_alive hlt, wFad, wSt, wO, ST_get hlt, LFE, ceI]
    refine ⟨trivial, trivial, ⟨by simp, by simp [StB], hro, by simp [okI], .inl (by omega), by omega⟩, ?_⟩
    have e : (ST bs id l k ++ m).set id (setCells (StB l k) (0 + 1) [I64 (k + 1)]) = ST bs id l (k + 1) ++ m := by
      have : setCells (StB l k) (0 + 1) [I64 (k + 1)] = StB l (k + 1) := by simp [StB, setCells]
      rw [this]
      exact ST_set hlt m
    simp only [e, wNil, ST_alive hlt, wFad, wLd, wO, ST_get hlt]
    refine ⟨trivial, trivial, ?_⟩
    simp only [StB, wPart, wO, List.getElem?_cons_succ, List.getElem?_cons_zero, Nat.zero_add]
    refine ⟨trivial, trivial, ⟨trivial, trivial⟩, wAri_fit (by omega) (by omega) ?_⟩
    refine wIdx_rows (.list _) (row := [.sc (.int .i64 a)]) (by omega) ?_ rfl (by omega) ?_
    · have : ((k + 1 : Nat) - 1 : Int).toNat = k := by omega
      simp [this, intRows, ha]
    simp only [wLd, wPart, wO, List.map_cons, List.map_nil, List.getElem?_cons_zero]
    refine wCall_pure (mod_spec a n hn hn2) ?_
    rintro v ⟨r, rfl, hr1, hr2⟩
    exact QM_ST hB hm hN (hP r (k + 1) hr1 hr2 (by omega) (by omega) (by omega))
theorem next_spec {bs : List (List AV)} {id : Nat} {l : List Int} (hB : Base bs id l) {m : List (List AV)} (hm : LocB bs m) {k : Nat} (hk : k ≤ l.length) {n : Int} (hn : 0 < n) (hn2 : n < 2 ^ 62) (L : Lim) (hro : L.ro ≤ id) (ts : List (Nat × Nat)) :
    ∃ v s', (∃ r k', v = I64 r ∧ 0 ≤ r ∧ r < n ∧ k ≤ k' ∧ k' ≤ l.length ∧ s' = ⟨ST bs id l k' ++ m, ts⟩) ∧ CallE (env R) L 44 [.ptr id 0, I64 n] ⟨ST bs id l k ++ m, ts⟩ v s' := by
  obtain ⟨v, s', ⟨r, k', h1, h2, h3, h4, h5, _, h6⟩, h7⟩ := next_spec2 (R := R) hB hm hk hn hn2 L hro ts
  exact ⟨v, s', ⟨r, k', h1, h2, h3, h4, h5, h6⟩, h7⟩
theorem raw_spec {bs : List (List AV)} {id : Nat} {l : List Int} (hB : Base bs id l) {m : List (List AV)} (hm : LocB bs m) {k : Nat} (hk : k ≤ l.length) (L : Lim) (hro : L.ro ≤ id) (ts : List (Nat × Nat)) :
    ∃ v s', (∃ r k', v = I64 r ∧ k ≤ k' ∧ k' ≤ l.length ∧ s' = ⟨ST bs id l k' ++ m, ts⟩) ∧ CallE (env R) L 45 [.ptr id 0] ⟨ST bs id l k ++ m, ts⟩ v s' := by
  have hlen := hB.len
  have hlt := hB.lt
  suffices H : ∀ (rr : Bool) (N : Nat) (Post : AV → Sto → Prop), N = bs.length + m.length → (∀ r k', k ≤ k' → k' ≤ l.length → Post (I64 r) ⟨ST bs id l k' ++ m, ts⟩) → P45_0 R 0 L.ro L.rt (.ptr id 0) ⟨ST bs id l k ++ m, ts⟩ (QM rr N Post) from
    m45 (by simp [noIdL, noId]) (H _ _ _ (by simp [ST_len]) fun r k' h3 h4 => ⟨r, k', rfl, h3, h4, rfl⟩)
  intro rr N Post hN hP
  refine p45_0 ?_
  by_cases h : k = l.length
  · simp [ST_get hlt, StB, intRows_len, h]
    rw [← h]
    exact QM_ST hB hm hN (hP 0 k (by omega) (by omega))
  · simp [ST_get hlt, StB, intRows_len]
    refine ⟨fun h2 => absurd h2 (by omega), fun _ => ?_⟩
    refine p45_1 ?_
    obtain ⟨a, ha⟩ : ∃ a, l[k]? = some a := ⟨_, List.getElem?_eq_getElem (by omega)⟩
    simp only [wNil, ST_alive hlt, wFad, wLd, wO, ST_get hlt, wInt]
    refine ⟨trivial, trivial, ?_⟩
    simp only [StB, wPart, wO, List.getElem?_cons_succ, List.getElem?_cons_zero, Nat.zero_add]
    refine ⟨⟨trivial, trivial⟩, wAri_fit (by omega) (by omega) ?_⟩
    simp only [wNil, ST_alive hlt, wFad, wSt, wO, ST_get hlt, LFE, ceI]
    refine ⟨trivial, trivial, ⟨by simp, by simp [StB], hro, by simp [okI], .inl (by omega), by omega⟩, ?_⟩
    have e : (ST bs id l k ++ m).set id (setCells (StB l k) (0 + 1) [I64 (k + 1)]) = ST bs id l (k + 1) ++ m := by
      have : setCells (StB l k) (0 + 1) [I64 (k + 1)] = StB l (k + 1) := by simp [StB, setCells]
      rw [this]
      exact ST_set hlt m
    simp only [e, wNil, ST_alive hlt, wFad, wLd, wO, ST_get hlt]
    refine ⟨trivial, trivial, ?_⟩
    simp only [StB, wPart, wO, List.getElem?_cons_succ, List.getElem?_cons_zero, Nat.zero_add]
    refine ⟨trivial, trivial, ⟨trivial, trivial⟩, wAri_fit (by omega) (by omega) ?_⟩
    refine wIdx_rows (.list _) (row := [.sc (.int .i64 a)]) (by omega) ?_ rfl (by omega) ?_
    · have : ((k + 1 : Nat) - 1 : Int).toNat = k := by omega
      simp [this, intRows, ha]
    simp only [wLd, wPart, wO, List.map_cons, List.map_nil, List.getElem?_cons_zero]
    exact QM_ST hB hm hN (hP a (k + 1) (by omega) (by omega))
theorem new_spec (l : List Int) (L : Lim) (s : Sto) : ∃ v s', (v = .ptr s.bs.length 0 ∧ s' = ⟨s.bs ++ [StB l 0], s.ts⟩) ∧ CallE (env R) L 8 [.pv (.list (intRows l))] s v s' := by
  refine m8 (p8_0 ?_)
  simp [StB]
end
end Go.Proofs.YtmipbilokjkjiaaGreatDoor
/-
  Generated nodes: AnyNode.
-/
namespace Go.Proofs.YtmipbilokjkjiaaGreatDoor
open Go.Tel
attribute [local simp] wNew wBox wBoxZ markT wCond wBuild fillS wO setCells wSt wLd wPart LFE wFad alive wInt wStr wGK wGd wPick wExt wLen wSlen wNot wNil okI ceI okB ceB okS ceS okL ceL okC ceC okO ceO okP ceP okG ceG okE ceE okR ceR okF ceF okX ceX okM ceM okN ceN okNf ceNf okNi ceNi ceA roL roC roO leL leC leO tpP tpC tpO clP clC clO clF clA clT clN clL nbP nbC nbO nbN nbL toPVs
theorem gk_t {b : Bool} {s : Sto} {W : (AV → Sto → Prop) → Prop} {K : AV → Sto → Prop} (h : W K) : wGK (BB b) b s W K := ⟨fun _ => h, fun h => absurd rfl h⟩
theorem gk_f {b c : Bool} {s : Sto} {W : (AV → Sto → Prop) → Prop} {K : AV → Sto → Prop} (hn : b ≠ c) (h : K (.tuple []) s) : wGK (BB b) c s W K := ⟨fun h => absurd h hn, fun _ => h⟩
theorem co_t {A B : Prop} (h : A) : wCond (BB true) A B := ⟨fun _ => h, fun h => by cases h⟩
theorem co_f {A B : Prop} (h : B) : wCond (BB false) A B := ⟨fun h => (by cases h), fun _ => h⟩
theorem pk {c : Bool} {a b : AV} {K : AV → Prop} (h : K (bif c then a else b)) : wPick (BB c) a b K := h
theorem in_eql {a b : Int} {K : AV → Prop} (h : K (BB (a == b))) : wInt .i64 .eql (I64 a) (I64 b) K := ⟨⟨rfl, rfl⟩, h⟩
theorem in_neq {a b : Int} {K : AV → Prop} (h : K (BB (a != b))) : wInt .i64 .neq (I64 a) (I64 b) K := ⟨⟨rfl, rfl⟩, h⟩
theorem in_lss {a b : Int} {K : AV → Prop} (h : K (BB (a < b))) : wInt .i64 .lss (I64 a) (I64 b) K := ⟨⟨rfl, rfl⟩, h⟩
theorem in_leq {a b : Int} {K : AV → Prop} (h : K (BB (a ≤ b))) : wInt .i64 .leq (I64 a) (I64 b) K := ⟨⟨rfl, rfl⟩, h⟩
theorem in_gtr {a b : Int} {K : AV → Prop} (h : K (BB (a > b))) : wInt .i64 .gtr (I64 a) (I64 b) K := ⟨⟨rfl, rfl⟩, h⟩
theorem in_geq {a b : Int} {K : AV → Prop} (h : K (BB (a ≥ b))) : wInt .i64 .geq (I64 a) (I64 b) K := ⟨⟨rfl, rfl⟩, h⟩
theorem in_add {a b : Int} {K : AV → Prop} (h1 : -(2 ^ 63) ≤ a + b) (h2 : a + b < 2 ^ 63) (h : K (I64 (a + b))) : wInt .i64 .add (I64 a) (I64 b) K := ⟨⟨rfl, rfl⟩, wAri_fit h1 h2 h⟩
theorem in_sub {a b : Int} {K : AV → Prop} (h1 : -(2 ^ 63) ≤ a - b) (h2 : a - b < 2 ^ 63) (h : K (I64 (a - b))) : wInt .i64 .sub (I64 a) (I64 b) K := ⟨⟨rfl, rfl⟩, wAri_fit h1 h2 h⟩
theorem bd_of {z ps cs : _} {K : AV → Prop} (hf : fillS z ps = some cs) (h : K (.agg cs)) : wBuild z ps K := by
  simp only [wBuild, hf, wO]
  exact h
section
variable {bs : List (List AV)} {id : Nat} {l : List Int}
theorem loc_get (k : Nat) (m r : List (List AV)) (j : Nat) : (ST bs id l k ++ (m ++ r))[bs.length + m.length + j]? = r[j]? := by
  have := get_app (ST bs id l k ++ m) r j
  simpa [ST_len] using this
theorem loc_get0 (k : Nat) (m r : List (List AV)) : (ST bs id l k ++ (m ++ r))[bs.length + m.length]? = r[0]? := loc_get k m r 0
theorem loc_set (k : Nat) (m r : List (List AV)) (j : Nat) (v : List AV) : (ST bs id l k ++ (m ++ r)).set (bs.length + m.length + j) v = ST bs id l k ++ (m ++ r.set j v) := by
  have := set_app (ST bs id l k ++ m) r j v
  simpa [ST_len] using this
theorem loc_set0 (k : Nat) (m r : List (List AV)) (v : List AV) : (ST bs id l k ++ (m ++ r)).set (bs.length + m.length) v = ST bs id l k ++ (m ++ r.set 0 v) := loc_set k m r 0 v
theorem locB_push {m : List (List AV)} (hm : LocB bs m) {r : List (List AV)} (hr : ∀ b ∈ r, idsLtL (bs.length + m.length + r.length) b = true) : LocB bs (m ++ r) := by
  intro b hb
  rcases List.mem_append.1 hb with h | h
  · exact idsLtL_mono (by simp) b (hm b h)
  · have := hr b h
    simpa [Nat.add_assoc] using this
/-- What a node is outside of slices, perhaps with a slice that is being appended to. -/
def NRepO (v : Nd) (x : AV) : Prop := match v with
  | .mk k s cs o => ∃ a, x = .agg [I64 k, SS s, a, I64 o] ∧ RowsO a (rowsN cs)
theorem NRepO.closed {v : Nd} {x : AV} (h : NRepO v x) : ∃ x', close [] 0 0 x = some x' ∧ NRep v x' ∧ close [] 0 0 x' = some x' := by
  obtain ⟨k, s, cs, o⟩ := v
  obtain ⟨a, rfl, ha⟩ := h
  obtain ⟨a', h1, h2⟩ := ha.closed [] 0
  exact ⟨.agg [I64 k, SS s, a', I64 o], by simp [h1], ⟨a', rfl, h2⟩, by simp [h2.close]⟩
theorem QM_nd {rr : Bool} {N : Nat} (hB : Base bs id l) {m r : List (List AV)} (hm : LocB bs m) {k : Nat} {ts : List (Nat × Nat)} {Post : AV → Sto → Prop} (hN : N = bs.length + m.length) {c o : Int} {s : List UInt8} {cs : List Nd} {a : AV} (ha : RowsO a (rowsN cs))
    (h : ∀ x, NRepO (.mk c s cs o) x → Post x ⟨ST bs id l k ++ m, ts⟩) : QM rr N Post (.agg [I64 c, SS s, a, I64 o]) ⟨ST bs id l k ++ (m ++ r), ts⟩ := by
  subst hN
  have e : (ST bs id l k ++ (m ++ r)).take (bs.length + m.length) = ST bs id l k ++ m := by
    rw [← List.append_assoc, List.take_append_of_le_length (by simp [ST_len]), List.take_of_length_le (by simp [ST_len])]
  obtain ⟨a', h1, h2⟩ := ha.close (ST bs id l k ++ (m ++ r)) (bs.length + m.length) ts.length
  refine QM_agg (ds := [I64 c, SS s, a', I64 o]) ?_ (by simp [h1]) ?_
  · simp only [e]
    exact hB.all hm k
  · simp only [e]
    exact h _ ⟨a', rfl, h2⟩
variable {R : Nat → Option (List PV)}
/-- A node is stored as the result, loaded and returned. -/
theorem node_leaf (hB : Base bs id l) {m r : List (List AV)} (hm : LocB bs m) {k : Nat} {ts : List (Nat × Nat)} {Post : AV → Sto → Prop} {rr : Bool} {N : Nat} {L' : Lim} {Z : List AV} (hZ : Z.length = 4) (hN : N = bs.length + m.length) (hro : L'.ro ≤ id) (hn0 : L'.n0 = 0) {c o : Int} {s : List UInt8} {cs : List Nd} {a : AV} (ha : RowsO a (rowsN cs))
    (h : ∀ x, NRepO (.mk c s cs o) x → Post x ⟨ST bs id l k ++ m, ts⟩) :
    wSt L' ⟨ST bs id l k ++ (m ++ Z :: r), ts⟩ 4 (.ptr (bs.length + m.length) 0) (.agg [I64 c, SS s, a, I64 o]) fun s1 => wLd (env R) s1 (some 4) (.ptr (bs.length + m.length) 0) fun r => QM rr N Post r s1 := by
  have hlt := hB.lt
  obtain ⟨z0, z1, z2, z3, rfl⟩ : ∃ z0 z1 z2 z3, Z = [z0, z1, z2, z3] := by
    rcases Z with _ | ⟨a, _ | ⟨b, _ | ⟨c, _ | ⟨d, _ | ⟨e, l⟩⟩⟩⟩⟩ <;> simp at hZ
    exact ⟨_, _, _, _, rfl⟩
  simp [loc_get0, loc_set0, show L'.ro ≤ bs.length + m.length by omega, hn0, ha.ok, ha.noBlk]
  exact QM_nd hB hm hN ha h
/-- What a generator makes: a node of bounded size. -/
def NdB (B g : Nat) (n : Nd) : Prop := okNd n ∧ fewN n ∧ nsize n ≤ B ∧ grow n ≤ g
theorem NdB.leaf {B g : Nat} {k o : Int} {s : List UInt8} (hs : s.length < 2 ^ 60) (hB : 0 < B) : NdB B g (.mk k s [] o) := by
  simp [NdB, okNd, okNds, fewN, fewNs, nsize, nsizeL, grow, growL, hs]
  omega
theorem strRow_get {l : List (List UInt8)} : strRow l = [.list (strRows l)] := rfl
/-- A word of a listed variable is drawn. -/
theorem ld_glob {g : Nat} {T : List (List UInt8)} (hG : (env R).G g = some (strRow T)) {s : Sto} {K : AV → Prop} (h : K (.pv (.list (strRows T)))) : wLd (env R) s none (.gptr g 0) K := by
  simp [wLd, hG, wO, wPart, strRow_get]
  exact h
theorem eq_strRows : ∀ l : List (List UInt8), eqPLL (strRows l) (strRows l) = true
  | [] => by simp [strRows, eqPLL]
  | s :: l => by
    have := eq_strRows l
    simp only [strRows, List.map_cons, eqPLL, eqPL, eqP, eqV_str, Bool.true_and, Bool.and_true] at this ⊢
    exact this
theorem wSt_and {L : Lim} {s : Sto} {k : Nat} {a x : AV} {K : Sto → Prop} {C : Prop} (hC : C) (h : wSt L s k a x K) : wSt L s k a x fun s => C ∧ K s := wSt_and2 (fun _ h => ⟨hC, h⟩) h
theorem ld_str {s : Sto} {w : List UInt8} {K : AV → Prop} (h : K (SS w)) : wLd (env R) s none (.eptr [.sc (.string ⟨w.toArray⟩)] 0) K := by
  simpa [wLd, wPart, wO] using h
theorem idx_str {T : List (List UInt8)} {r : Int} {w : List UInt8} (h0 : 0 ≤ r) (hw : T[r.toNat]? = some w) {s : Sto} {K : AV → Prop} (h : K (.eptr [.sc (.string ⟨w.toArray⟩)] 0)) : wIdx s 1 (.pv (.list (strRows T))) (I64 r) K :=
  wIdx_rows (.list _) (row := [.sc (.string ⟨w.toArray⟩)]) h0 (by simp [strRows, hw]) rfl (by omega) h
theorem eqA_strRows (T : List (List UInt8)) : eqA (.pv (.list (strRows T))) (.pv (.list (strRows T))) = true := by simp [eqA, eqP, eq_strRows]
theorem eqA_eptr (w : List UInt8) : eqA (.eptr [.sc (.string ⟨w.toArray⟩)] 0) (.eptr [.sc (.string ⟨w.toArray⟩)] 0) = true := by simp [eqA, eqPL, eqP, eqV_str]
theorem eqA_SS (w : List UInt8) : eqA (SS w) (SS w) = true := by simp [eqA, eqP, eqV_str]
theorem eqA_I (n : Int) : eqA (I64 n) (I64 n) = true := by simp [eqA, eqP, eqV_int]
theorem len_str {T : List (List UInt8)} {s : Sto} {K : AV → Prop} (h : K (I64 T.length)) : wLen s (.pv (.list (strRows T))) K := by
  simpa only [wLen, leL, wO, strRows_len] using h
end
def strT : List (List UInt8) := [[], [97, 32, 98], [113, 117, 111, 116, 101, 32, 34, 32, 97, 110, 100, 32, 92], [126], [40, 110, 111, 116, 32, 97, 32, 108, 105, 115, 116, 41], [59, 32, 110, 111, 32, 99, 111, 109, 109, 101, 110, 116]]
/-- A table of short words. -/
def Short (T : List (List UInt8)) : Prop := (∀ s ∈ T, s.length < 2 ^ 60) ∧ 0 < T.length ∧ T.length < 2 ^ 60
theorem rowsN_append (l m : List Nd) : rowsN (l ++ m) = rowsN l ++ rowsN m := by simp [rowsN_eq]
theorem rowsN_row {l : List Nd} {r : List PV} (h : r ∈ rowsN l) : r.length = 4 := by
  rw [rowsN_eq] at h
  obtain ⟨v, _, rfl⟩ := List.mem_map.1 h
  exact rowN_len v
theorem rowN_ok (v : Nd) : ((rowN v).map AV.pv).all okCell = true := by cases v; simp [rowN, okI, okS, okL]
theorem okNds_append : ∀ {l m : List Nd}, okNds l → okNds m → okNds (l ++ m)
  | [], m, _, h => h
  | v :: l, m, h, h' => by
    simp only [okNds, List.cons_append] at h ⊢
    exact ⟨h.1, okNds_append h.2 h'⟩
theorem fewNs_append : ∀ {l m : List Nd}, fewNs l → fewNs m → fewNs (l ++ m)
  | [], m, _, h => h
  | v :: l, m, h, h' => by
    simp only [fewNs, List.cons_append] at h ⊢
    exact ⟨h.1, fewNs_append h.2 h'⟩
theorem nsizeL_append : ∀ (l m : List Nd), nsizeL (l ++ m) = nsizeL l + nsizeL m
  | [], m => by simp [nsizeL]
  | v :: l, m => by simp [nsizeL, nsizeL_append l m, Nat.add_assoc]
theorem growL_le : ∀ {l : List Nd} {g : Nat}, (∀ c ∈ l, grow c ≤ g) → growL l ≤ g + 1
  | [], g, _ => by simp [growL]
  | [t], g, h => by
    have := h t (by simp)
    simp only [growL]; omega
  | t :: u :: l, g, h => by
    have h1 := h t (by simp)
    have h2 := growL_le (l := u :: l) (g := g) (fun c hc => h c (List.mem_cons_of_mem _ hc))
    simp only [growL]; omega
theorem ApdN.eqA {lo : Nat} {ts : List (Nat × Nat)} {k : Nat} {a : AV} {es : List Nd} (h : Apd lo ts k a (rowsN es)) : Tel.eqA a a = true := by
  rcases h with rfl | ⟨t, rfl, _⟩
  · simp [Tel.eqA, eqPLL_rowsN]
  · simp [Tel.eqA, eqPLL_rowsN]
end Go.Proofs.YtmipbilokjkjiaaGreatDoor
/-
  Generated nodes: AnyNode.
-/
namespace Go.Proofs.YtmipbilokjkjiaaGreatDoor
open Go.Tel
attribute [local simp] wNew wBox wBoxZ markT wCond wBuild fillS wO setCells wSt wLd wPart LFE wFad alive wInt wStr wGK wGd wPick wExt wLen wSlen wNot wNil okI ceI okB ceB okS ceS okL ceL okC ceC okO ceO okP ceP okG ceG okE ceE okR ceR okF ceF okX ceX okM ceM okN ceN okNf ceNf okNi ceNi ceA roL roC roO leL leC leO tpP tpC tpO clP clC clO clF clA clT clN clL nbP nbC nbO nbN nbL toPVs
section
variable {bs : List (List AV)} {id : Nat} {l : List Int} {m : List (List AV)} {d : Int} {ro rt : Nat} {ts : List (Nat × Nat)} {rr : Bool} {N k0 : Nat} {Post : AV → Sto → Prop} {R : Nat → Option (List PV)} {Q : Nd → Prop}
/-- The loop that makes a list's elements. -/
theorem any_loop (hB : Base bs id l) (hm : LocB bs m) (hro : ro ≤ id) (hrt : rt ≤ ts.length) (hd : 0 < d) (hd2 : d < 100) (hN : N = bs.length + m.length) {cnt : Nat} (hcnt : cnt < 100)
    (ih : ∀ {m' : List (List AV)}, LocB bs m' → ∀ {k : Nat}, k ≤ l.length → ∀ (L : Lim), L.ro ≤ id → ∀ (ts' : List (Nat × Nat)), L.rt ≤ ts'.length →
      ∃ v s', (∃ n k' x, NRepO n v ∧ Q n ∧ k ≤ k' ∧ k' ≤ l.length ∧ s' = ⟨ST bs id l k' ++ m', ts' ++ x⟩) ∧ CallE (env R) L 20 [.ptr id 0, I64 (d - 1), BB true] ⟨ST bs id l k ++ m', ts'⟩ v s')
    (hP : ∀ es v k' ts', es.length = cnt → (∀ e ∈ es, Q e) → NRepO (.mk 3 [] es 0) v → k0 ≤ k' → k' ≤ l.length → Post v ⟨ST bs id l k' ++ m, ts ++ ts'⟩) :
    ∀ (j i k : Nat) (x : List (Nat × Nat)) (a : AV) (es : List Nd), i + j = cnt → k0 ≤ k → k ≤ l.length → es.length = i → (∀ e ∈ es, Q e) → Apd ts.length (ts ++ x) 49 a (rowsN es) →
      P20_2 R 0 ro rt (.ptr id 0) (I64 d) (BB true) (.ptr (bs.length + m.length) 0) (.ptr (bs.length + m.length + 1) 0) (I64 cnt) (I64 i) ⟨ST bs id l k ++ (m ++ [[I64 0, SS [], .capped [], I64 0], [I64 3, SS [], a, I64 0]]), ts ++ x⟩ (QM rr N Post) := by
  have hlt := hB.lt
  intro j
  induction j with
  | zero =>
    intro i k x a es hi hk0 hk hes hq ha
    refine p20_2 ?_
    have h1 : ¬ ((i : Int) < cnt) := by omega
    simp only [wInt, wCond, h1, decide_false]
    refine ⟨⟨trivial, trivial⟩, by simp, fun _ => p20_4 ?_⟩
    have ho := ha.rowsO
    have := node_leaf (R := R) (Post := Post) (rr := rr) (N := N) (k := k) (ts := ts ++ x) (Z := [I64 0, SS [], .capped [], I64 0]) (r := [[I64 3, SS [], a, I64 0]]) (L' := LFE (env R) 20 0 ro rt) hB hm rfl hN hro rfl ho (c := 3) (o := 0) (s := []) (fun y hy => hP es y k x (by omega) hq hy hk0 hk)
    simpa [wLd, wO, wPart, loc_get] using this
  | succ j ihj =>
    intro i k x a es hi hk0 hk hes hq ha
    refine p20_2 ?_
    have ho := ha.rowsO
    have h1 : ((i : Int) < cnt) := by omega
    simp only [wInt, wCond, h1, decide_true]
    refine ⟨⟨trivial, trivial⟩, fun _ => p20_3 ?_, by simp⟩
    have hm2 : LocB bs (m ++ [[I64 0, SS [], .capped [], I64 0], [I64 3, SS [], a, I64 0]]) := locB_push hm (by simp [idsLtL, idsLt, ho.idsLt])
    simp [loc_get, loc_get0, loc_set, loc_set0]
    refine wAri_fit (by omega) (by omega) ?_
    refine wCall_do (ih hm2 hk _ hro (ts ++ x) (by simp; omega)) ?_
    rintro v s1 ⟨n, k2, x2, hv, hqn, hk2, hk3, rfl⟩
    obtain ⟨c, s, cs, o⟩ := n
    obtain ⟨b, rfl, hb⟩ := hv
    simp [wBsl, repl, hb.ok, hb.toPV, loc_get, loc_get0, loc_set, loc_set0]
    have hrow : rowsBy 4 1 [PV.sc (.int .i64 c), .sc (.string ⟨s.toArray⟩), .list (rowsN cs), .sc (.int .i64 o)] = [rowN (.mk c s cs o)] := by simp [rowsBy, rowN]
    rw [hrow]
    have ha2 : Apd ts.length (ts ++ (x ++ x2)) 49 a (rowsN es) := by
      rw [← List.append_assoc]
      exact ha.grow
    refine wApp_row ha2 hrt (fun r hr => rowsN_row hr) (rowN_len _) (by omega) (rowN_ok _) (by simp [rowsN_eq]; omega) (by simp [rowsN_eq]; omega) ?_
    intro a' x' ha'
    have ho' := ha'.rowsO
    simp [loc_get, loc_get0, loc_set, loc_set0, ho'.ok, ho'.cells, ho'.noBlk, show ro ≤ bs.length + m.length + 1 by omega]
    refine ⟨by simp [eqA], ?_, ?_⟩
    · simpa [ApdN.eqA] using ApdN.eqA ha
    refine p20_5 ?_
    simp only [wInt]
    refine ⟨⟨trivial, trivial⟩, wAri_fit (by omega) (by omega) ?_⟩
    have ha3 : Apd ts.length (ts ++ x') 49 a' (rowsN (es ++ [.mk c s cs o])) := by
      rw [rowsN_append]
      simpa [rowsN] using ha'
    have := ihj (i + 1) k2 x' a' (es ++ [.mk c s cs o]) (by omega) (by omega) hk3 (by simp; omega) (by
      intro e he
      rcases List.mem_append.1 he with h | h
      · exact hq e h
      · simp only [List.mem_cons, List.not_mem_nil, or_false] at h
        rw [h]; exact hqn) ha3
    simpa using this
end
end Go.Proofs.YtmipbilokjkjiaaGreatDoor
/-
  Generated nodes: AnyNode, all cases.
-/
namespace Go.Proofs.YtmipbilokjkjiaaGreatDoor
open Go.Tel
attribute [local simp] wNew wBox wBoxZ markT wCond wBuild fillS wO setCells wSt wLd wPart LFE wFad alive wInt wStr wGK wGd wPick wExt wLen wSlen wNot wNil okI ceI okB ceB okS ceS okL ceL okC ceC okO ceO okP ceP okG ceG okE ceE okR ceR okF ceF okX ceX okM ceM okN ceN okNf ceNf okNi ceNi ceA roL roC roO leL leC leO tpP tpC tpO clP clC clO clF clA clT clN clL nbP nbC nbO nbN nbL toPVs
theorem NdB.list {d : Nat} {es : List Nd} (hd : 0 < d) (hl : es.length ≤ 5) (h : ∀ e ∈ es, NdB (8 ^ d) d e) : NdB (8 ^ (d + 1)) (d + 1) (.mk 3 [] es 0) := by
  have h1 : okNds es ∧ fewNs es ∧ nsizeL es ≤ es.length * 8 ^ d := by
    clear hl
    induction es with
    | nil => simp [okNds, fewNs, nsizeL]
    | cons e es ih =>
      obtain ⟨a1, a2, a3, a4⟩ := h e (by simp)
      obtain ⟨b1, b2, b3⟩ := ih (fun x hx => h x (List.mem_cons_of_mem _ hx))
      simp only [okNds, fewNs, nsizeL, List.length_cons, Nat.add_mul, Nat.one_mul]
      exact ⟨⟨a1, b1⟩, ⟨a2, b2⟩, by omega⟩
  have h2 : growL es ≤ d + 1 := growL_le fun c hc => (h c hc).2.2.2
  have h3 : 8 ^ (d + 1) = 8 * 8 ^ d := by rw [Nat.pow_succ, Nat.mul_comm]
  have h4 : es.length * 8 ^ d ≤ 5 * 8 ^ d := Nat.mul_le_mul_right _ hl
  have h5 : 0 < 8 ^ d := Nat.pow_pos (by omega)
  refine ⟨?_, ?_, ?_, ?_⟩
  · simp only [okNd]; exact ⟨by simp, h1.1⟩
  · simp only [fewN]; exact ⟨by omega, h1.2.1⟩
  · simp only [nsize]; omega
  · simp only [grow]; exact h2
section
variable {R : Nat → Option (List PV)}
theorem anyNode_spec {bs : List (List AV)} {id : Nat} {l : List Int} (hB : Base bs id l) {S W : List (List UInt8)} (hS : (env R).G 1 = some (strRow S)) (hW : (env R).G 2 = some (strRow W)) (sS : Short S) (sW : Short W) : ∀ (d : Nat), d < 100 → ∀ {m : List (List AV)}, LocB bs m → ∀ {k : Nat}, k ≤ l.length → ∀ (L : Lim), L.ro ≤ id → ∀ (ts : List (Nat × Nat)), L.rt ≤ ts.length →
    ∃ v s', (∃ n k' x, NRepO n v ∧ NdB (8 ^ (d + 1)) (d + 1) n ∧ k ≤ k' ∧ k' ≤ l.length ∧ s' = ⟨ST bs id l k' ++ m, ts ++ x⟩) ∧ CallE (env R) L 20 [.ptr id 0, I64 d, BB true] ⟨ST bs id l k ++ m, ts⟩ v s' := by
  intro d
  induction d using Nat.strongRecOn with
  | ind d ih =>
    intro hd m hm k hk L hro ts hrt
    have hlen := hB.len
    have hlt := hB.lt
    suffices H : ∀ (rr : Bool) (N : Nat) (Post : AV → Sto → Prop), N = bs.length + m.length → (∀ n v k' x, NRepO n v → NdB (8 ^ (d + 1)) (d + 1) n → k ≤ k' → k' ≤ l.length → Post v ⟨ST bs id l k' ++ m, ts ++ x⟩) → P20_0 R 0 L.ro L.rt (.ptr id 0) (I64 d) (BB true) ⟨ST bs id l k ++ m, ts⟩ (QM rr N Post) from
      m20 (by simp [noIdL, noId]) (H _ _ _ (by simp [ST_len]) fun n v k' x h1 h2 h3 h4 => ⟨n, k', x, h1, h2, h3, h4, rfl⟩)
    intro rr N Post hN hP
    have hpow : 0 < 8 ^ (d + 1) := Nat.pow_pos (by omega)
    have hP0 : ∀ n k', NdB (8 ^ (d + 1)) (d + 1) n → k ≤ k' → k' ≤ l.length → ∀ x, NRepO n x → Post x ⟨ST bs id l k' ++ m, ts⟩ := fun n k' h1 h2 h3 x hx => by
      have := hP n x k' [] hx h1 h2 h3
      simpa using this
    have hm' : LocB bs (m ++ [[I64 0, SS [], .capped [], I64 0]]) := locB_push hm (by simp [idsLtL, idsLt])
    -- a word or a string
    have word : ∀ (T : List (List UInt8)) (g : Nat) (c : Int), (env R).G g = some (strRow T) → Short T → ∀ k1, k ≤ k1 → k1 ≤ l.length →
        wLd (env R) ⟨ST bs id l k1 ++ (m ++ [[I64 0, SS [], .capped [], I64 0]]), ts⟩ none (.gptr g 0) fun a61 =>
        wLd (env R) ⟨ST bs id l k1 ++ (m ++ [[I64 0, SS [], .capped [], I64 0]]), ts⟩ none (.gptr g 0) fun a63 =>
        wLen ⟨ST bs id l k1 ++ (m ++ [[I64 0, SS [], .capped [], I64 0]]), ts⟩ a63 fun a64 =>
        wCall (env R) (LFE (env R) 20 0 L.ro L.rt) (.func (.func 44) [] []) [(.ptr id 0), a64] ⟨ST bs id l k1 ++ (m ++ [[I64 0, SS [], .capped [], I64 0]]), ts⟩ fun a65 s1x37 =>
        wIdx s1x37 1 a61 a65 fun a66 =>
        wLd (env R) s1x37 none a66 fun a67 =>
        wBuild [(I64 0), (SS []), (.capped []), (I64 0)] [(0, 1, (I64 c)), (1, 1, a67)] fun a68 =>
        wSt (LFE (env R) 20 0 L.ro L.rt) s1x37 4 (.ptr (bs.length + m.length) 0) a68 fun s1x38 =>
        (wLd (env R) s1x37 none (.gptr g 0) fun vx39 => eqA vx39 a61 = true) ∧
        wLd (env R) s1x38 (some 4) (.ptr (bs.length + m.length) 0) fun rx40 =>
        QM rr N Post rx40 s1x38 := by
      intro T g c hG hT k1 hk1 hk2
      obtain ⟨t1, t2, t3⟩ := hT
      refine ld_glob hG (ld_glob hG (len_str ?_))
      refine wCall_do (next_spec (n := T.length) hB hm' hk2 (by omega) (by omega) _ (by simpa [LFE] using hro) ts) ?_
      rintro v s1 ⟨r2, k2, rfl, hr3, hr4, hk3, hk4, rfl⟩
      obtain ⟨w, hw⟩ : ∃ w, T[r2.toNat]? = some w := ⟨_, List.getElem?_eq_getElem (by omega)⟩
      refine idx_str hr3 hw (ld_str ?_)
      have hfill : fillS [(I64 0), (SS []), (.capped []), (I64 0)] [(0, 1, (I64 c)), (1, 1, SS w)] = some [I64 c, SS w, .capped [], I64 0] := by simp
      simp only [wBuild, hfill, wO]
      have leaf := node_leaf (R := R) (Post := Post) (rr := rr) (N := N) (k := k2) (ts := ts) (Z := [I64 0, SS [], .capped [], I64 0]) (r := []) (L' := LFE (env R) 20 0 L.ro L.rt) hB hm rfl hN hro rfl (cs := []) (a := .capped []) (by simp [rowsN]; exact .inl (.capped _)) (c := c) (o := 0) (s := w) (hP0 _ k2 (NdB.leaf (t1 w (List.mem_of_getElem? hw)) hpow) (by omega) hk4)
      exact wSt_and (ld_glob hG (eqA_strRows T)) leaf
    refine p20_0 ?_
    simp only [wNew, List.append_assoc, List.length_append, ST_len]
    refine wCall_do (next_spec hB hm' hk (by omega) (by omega) _ (by simpa [LFE] using hro) ts) ?_
    rintro v s1 ⟨r, k1, rfl, hr1, hr2, hk1, hk2, rfl⟩
    refine gk_t (gk_t (in_eql (pk ?_)))
    cases b11 : (r == 11) with
    | true =>
      refine co_t ?_
      refine wCall_do (next_spec (n := 5) hB hm' hk2 (by omega) (by omega) _ (by simpa [LFE] using hro) ts) ?_
      rintro v s1 ⟨r2, k2, rfl, hr3, hr4, hk3, hk4, rfl⟩
      obtain ⟨t1, t2, t3⟩ := sS
      obtain ⟨u1, u2, u3⟩ := sW
      refine ld_glob hS (ld_glob hS (len_str ?_))
      refine wCall_do (next_spec (n := S.length) hB hm' hk4 (by omega) (by omega) _ (by simpa [LFE] using hro) ts) ?_
      rintro v s1 ⟨r3, k3, rfl, hr5, hr6, hk5, hk6, rfl⟩
      obtain ⟨w, hw⟩ : ∃ w, S[r3.toNat]? = some w := ⟨_, List.getElem?_eq_getElem (by omega)⟩
      refine idx_str hr5 hw (ld_str ?_)
      refine ld_glob hW (ld_glob hW (len_str ?_))
      refine wCall_do (next_spec (n := W.length) hB hm' hk6 (by omega) (by omega) _ (by simpa [LFE] using hro) ts) ?_
      rintro v s1 ⟨r4, k4, rfl, hr7, hr8, hk7, hk8, rfl⟩
      obtain ⟨y, hy⟩ : ∃ w, W[r4.toNat]? = some w := ⟨_, List.getElem?_eq_getElem (by omega)⟩
      refine idx_str hr7 hy (ld_str ?_)
      refine bd_of (cs := [I64 1, SS y, .capped [], I64 0]) (by simp) ?_
      have hb1 : ∀ (s : Sto) (K : AV → Sto → Prop), K (.capped (rowsN [.mk 1 y [] 0])) s → wBsl false s 4 [(I64 0), (SS []), (.capped []), (I64 0)] 1 [(0, 4, .agg [I64 1, SS y, .capped [], I64 0])] K := by
        intro s K h
        simp [wBsl, repl, rowsBy]
        simpa [rowsN, rowN] using h
      refine hb1 _ _ ?_
      refine bd_of (cs := [I64 r2, SS w, .capped (rowsN [.mk 1 y [] 0]), I64 0]) (by simp) ?_
      have hnd : NdB (8 ^ (d + 1)) (d + 1) (.mk r2 w [.mk 1 y [] 0] 0) := by
        have h8 : 8 ^ (d + 1) = 8 * 8 ^ d := by rw [Nat.pow_succ, Nat.mul_comm]
        have h9 : 0 < 8 ^ d := Nat.pow_pos (by omega)
        have q1 := t1 w (List.mem_of_getElem? hw)
        have q2 := u1 y (List.mem_of_getElem? hy)
        simp [NdB, okNd, okNds, fewN, fewNs, nsize, nsizeL, grow, growL, q1, q2]
        omega
      have leaf := node_leaf (R := R) (Post := Post) (rr := rr) (N := N) (k := k4) (ts := ts) (Z := [I64 0, SS [], .capped [], I64 0]) (r := []) (L' := LFE (env R) 20 0 L.ro L.rt) hB hm rfl hN hro rfl (cs := [.mk 1 y [] 0]) (a := .capped (rowsN [.mk 1 y [] 0])) (.inl (.capped _)) (c := r2) (o := 0) (s := w) (hP0 _ k4 hnd (by omega) hk8)
      refine wSt_and2 ?_ leaf
      intro s' h
      exact ⟨ld_glob hS (eqA_strRows S), ld_glob hS (eqA_strRows S), ld_glob hS (eqA_strRows S), ld_glob hS (eqA_strRows S), len_str (eqA_I _), idx_str hr5 hw (eqA_eptr _), ld_str (eqA_SS _), ld_glob hW (eqA_strRows W), ld_glob hW (eqA_strRows W), ld_glob hW (eqA_strRows W), ld_glob hW (eqA_strRows W), ld_glob hW (eqA_strRows W), len_str (eqA_I _), len_str (eqA_I _), h⟩
    | false =>
      refine co_f (gk_t (gk_t (in_eql (pk ?_))))
      cases b10 : (r == 10) with
      | true =>
        refine co_t ?_
        obtain ⟨t1, t2, t3⟩ := sS
        refine ld_glob hS (ld_glob hS (len_str ?_))
        refine wCall_do (next_spec (n := S.length) hB hm' hk2 (by omega) (by omega) _ (by simpa [LFE] using hro) ts) ?_
        rintro v s1 ⟨r3, k3, rfl, hr5, hr6, hk5, hk6, rfl⟩
        obtain ⟨w, hw⟩ : ∃ w, S[r3.toNat]? = some w := ⟨_, List.getElem?_eq_getElem (by omega)⟩
        refine idx_str hr5 hw (ld_str ?_)
        refine wCall_do (raw_spec hB hm' hk6 _ (by simpa [LFE] using hro) ts) ?_
        rintro v s1 ⟨r4, k4, rfl, hk7, hk8, rfl⟩
        refine bd_of (cs := [I64 1, SS w, .capped [], I64 r4]) (by simp) ?_
        have leaf := node_leaf (R := R) (Post := Post) (rr := rr) (N := N) (k := k4) (ts := ts) (Z := [I64 0, SS [], .capped [], I64 0]) (r := []) (L' := LFE (env R) 20 0 L.ro L.rt) hB hm rfl hN hro rfl (cs := []) (a := .capped []) (by simp [rowsN]; exact .inl (.capped _)) (c := 1) (o := r4) (s := w) (hP0 _ k4 (NdB.leaf (t1 w (List.mem_of_getElem? hw)) hpow) (by omega) hk8)
        refine wSt_and2 ?_ leaf
        intro s' h
        exact ⟨ld_glob hS (eqA_strRows S), ld_glob hS (eqA_strRows S), idx_str hr5 hw (eqA_eptr _), ld_str (eqA_SS _), h⟩
      | false =>
        refine co_f (in_lss ?_)
        cases b4 : (decide (r < 4)) with
        | true => exact gk_f (by simp) (gk_f (by simp) (pk (co_t (word W 2 1 hW sW k1 hk1 hk2))))
        | false =>
          refine gk_t (gk_t (in_leq (pk ?_)))
          cases b0 : (decide ((d : Int) ≤ 0)) with
          | true => exact co_t (word W 2 1 hW sW k1 hk1 hk2)
          | false =>
            refine co_f ?_
            have hd0 : 0 < d := by simp at b0; omega
            refine in_lss ?_
            cases b6 : (decide (r < 6)) with
            | true => exact co_t (word S 1 2 hS sS k1 hk1 hk2)
            | false =>
              refine co_f (p20_1 ?_)
              refine bd_of (cs := [I64 3, SS [], .capped [], I64 0]) (by simp) ?_
              simp [loc_get, loc_get0, loc_set, loc_set0, ST_len]
              have e1 : ∀ z : List AV, (ST bs id l k1 ++ (m ++ [[I64 0, SS [], .capped [], I64 0], z]))[bs.length + (m.length + 1)]? = some z := fun z => by
                have := loc_get (bs := bs) (id := id) (l := l) k1 m [[I64 0, SS [], .capped [], I64 0], z] 1
                simpa [Nat.add_assoc] using this
              have e2 : ∀ z y : List AV, (ST bs id l k1 ++ (m ++ [[I64 0, SS [], .capped [], I64 0], z])).set (bs.length + (m.length + 1)) y = ST bs id l k1 ++ (m ++ [[I64 0, SS [], .capped [], I64 0], y]) := fun z y => by
                have := loc_set (bs := bs) (id := id) (l := l) k1 m [[I64 0, SS [], .capped [], I64 0], z] 1 y
                simpa [Nat.add_assoc] using this
              simp [e1, e2, show L.ro ≤ bs.length + (m.length + 1) by omega]
              have hm2 : LocB bs (m ++ [[I64 0, SS [], .capped [], I64 0], [I64 3, SS [], .capped [], I64 0]]) := locB_push hm (by simp [idsLtL, idsLt])
              refine wCall_do (next_spec (n := 5) hB hm2 hk2 (by omega) (by omega) _ (by exact hro) ts) ?_
              rintro v s1 ⟨r7, k2, rfl, hr7, hr8, hk3, hk4, rfl⟩
              obtain ⟨j, rfl⟩ := Int.eq_ofNat_of_zero_le hr7
              have ihd := @ih (d - 1) (by omega) (by omega)
              have e3 : ((d - 1 : Nat) : Int) = (d : Int) - 1 := by omega
              have e4 : d - 1 + 1 = d := by omega
              rw [e3, e4] at ihd
              have := any_loop (R := R) (rr := rr) (N := N) (Post := Post) (k0 := k) (ts := ts) (d := d) (ro := L.ro) (rt := L.rt) (Q := NdB (8 ^ d) d) (cnt := j) hB hm hro hrt (by omega) (by omega) hN (by omega) (fun {m'} h1 {k'} h2 L' h3 ts' h4 => ihd h1 h2 L' h3 ts' h4)
                (fun es v k' ts' h1 h2 h3 h4 h5 => hP _ v k' ts' h3 (NdB.list hd0 (by omega) h2) h4 h5) j 0 k2 [] (.capped []) [] (by omega) (by omega) hk4 rfl (by simp) (.inl (by simp [rowsN]))
              simpa [Nat.add_assoc] using this
end
end Go.Proofs.YtmipbilokjkjiaaGreatDoor
/-
  Generated nodes: the loop of TypeNode.
-/
namespace Go.Proofs.YtmipbilokjkjiaaGreatDoor
open Go.Tel
attribute [local simp] wNew wBox wBoxZ markT wCond wBuild fillS wO setCells wSt wLd wPart LFE wFad alive wInt wStr wGK wGd wPick wExt wLen wSlen wNot wNil okI ceI okB ceB okS ceS okL ceL okC ceC okO ceO okP ceP okG ceG okE ceE okR ceR okF ceF okX ceX okM ceM okN ceN okNf ceNf okNi ceNi ceA roL roC roO leL leC leO tpP tpC tpO clP clC clO clF clA clT clN clL nbP nbC nbO nbN nbL toPVs
section
variable {bs : List (List AV)} {id : Nat} {l : List Int} {m : List (List AV)} {d : Int} {ro rt : Nat} {ts : List (Nat × Nat)} {rr : Bool} {N k0 : Nat} {Post : AV → Sto → Prop} {R : Nat → Option (List PV)} {g : Nat}
/-- The loop that makes a list's elements; 'k0' is where it began. -/
theorem type_loop (hB : Base bs id l) (hm : LocB bs m) (hro : ro ≤ id) (hrt : rt ≤ ts.length) (hd : 0 < d) (hd2 : d < 100) (hN : N = bs.length + m.length) {cnt : Nat} (hcnt : cnt < 100) {w : List UInt8}
    (ih : ∀ {m' : List (List AV)}, LocB bs m' → ∀ {k : Nat}, k0 ≤ k → k ≤ l.length → ∀ (L : Lim), L.ro ≤ id → ∀ (ts' : List (Nat × Nat)), L.rt ≤ ts'.length →
      ∃ v s', (∃ n k' x, NRepO n v ∧ NdB (4 * (k' - k) + 1) g n ∧ k ≤ k' ∧ k' ≤ l.length ∧ s' = ⟨ST bs id l k' ++ m', ts' ++ x⟩) ∧ CallE (env R) L 21 [.ptr id 0, I64 (d - 1)] ⟨ST bs id l k ++ m', ts'⟩ v s')
    (hP : ∀ es v k' ts', es.length = cnt → (okNds es ∧ fewNs es ∧ nsizeL es ≤ 4 * (k' - k0) + cnt ∧ ∀ e ∈ es, grow e ≤ g) → NRepO (.mk 3 [] (.mk 1 w [] 0 :: es) 0) v → k0 ≤ k' → k' ≤ l.length → Post v ⟨ST bs id l k' ++ m, ts ++ ts'⟩) :
    ∀ (j i k : Nat) (x : List (Nat × Nat)) (a : AV) (es : List Nd), i + j = cnt → k0 ≤ k → k ≤ l.length → es.length = i → (okNds es ∧ fewNs es ∧ nsizeL es ≤ 4 * (k - k0) + i ∧ ∀ e ∈ es, grow e ≤ g) → Apd ts.length (ts ++ x) 49 a (rowsN (.mk 1 w [] 0 :: es)) →
      P21_3 R 0 ro rt (.ptr id 0) (I64 d) (.ptr (bs.length + m.length) 0) (I64 cnt) (.ptr (bs.length + m.length + 1) 0) (I64 i) ⟨ST bs id l k ++ (m ++ [[I64 0, SS [], .capped [], I64 0], [I64 3, SS [], a, I64 0]]), ts ++ x⟩ (QM rr N Post) := by
  have hlt := hB.lt
  intro j
  induction j with
  | zero =>
    intro i k x a es hi hk0 hk hes hq ha
    refine p21_3 ?_
    have h1 : ¬ ((i : Int) < cnt) := by omega
    refine in_lss ?_
    simp only [h1, decide_false]
    refine co_f (p21_5 ?_)
    have ho := ha.rowsO
    have hi' : i = cnt := by omega
    rw [hi'] at hq
    have := node_leaf (R := R) (Post := Post) (rr := rr) (N := N) (k := k) (ts := ts ++ x) (Z := [I64 0, SS [], .capped [], I64 0]) (r := [[I64 3, SS [], a, I64 0]]) (L' := LFE (env R) 21 0 ro rt) hB hm rfl hN hro rfl ho (c := 3) (o := 0) (s := []) (fun y hy => hP es y k x (by omega) hq hy hk0 hk)
    simpa [wLd, wO, wPart, loc_get] using this
  | succ j ihj =>
    intro i k x a es hi hk0 hk hes hq ha
    refine p21_3 ?_
    have ho := ha.rowsO
    have h1 : ((i : Int) < cnt) := by omega
    refine in_lss ?_
    simp only [h1, decide_true]
    refine co_t (p21_4 ?_)
    have hm2 : LocB bs (m ++ [[I64 0, SS [], .capped [], I64 0], [I64 3, SS [], a, I64 0]]) := locB_push hm (by simp [idsLtL, idsLt, ho.idsLt])
    simp [loc_get, loc_get0, loc_set, loc_set0]
    refine wAri_fit (by omega) (by omega) ?_
    refine wCall_do (ih hm2 hk0 hk _ hro (ts ++ x) (by simp; omega)) ?_
    rintro v s1 ⟨n, k2, x2, hv, hqn, hk2, hk3, rfl⟩
    obtain ⟨c, s, cs, o⟩ := n
    obtain ⟨b, rfl, hb⟩ := hv
    simp [wBsl, repl, hb.ok, hb.toPV, loc_get, loc_get0, loc_set, loc_set0]
    have hrow : rowsBy 4 1 [PV.sc (.int .i64 c), .sc (.string ⟨s.toArray⟩), .list (rowsN cs), .sc (.int .i64 o)] = [rowN (.mk c s cs o)] := by simp [rowsBy, rowN]
    rw [hrow]
    have ha2 : Apd ts.length (ts ++ (x ++ x2)) 49 a (rowsN (.mk 1 w [] 0 :: es)) := by
      rw [← List.append_assoc]
      exact ha.grow
    refine wApp_row ha2 hrt (fun r hr => rowsN_row hr) (rowN_len _) (by omega) (rowN_ok _) (by simp [rowsN_eq]; omega) (by simp [rowsN_eq]; omega) ?_
    intro a' x' ha'
    have ho' := ha'.rowsO
    simp [loc_get, loc_get0, loc_set, loc_set0, ho'.ok, ho'.cells, ho'.noBlk, show ro ≤ bs.length + m.length + 1 by omega]
    refine ⟨by simp [eqA], ?_, ?_⟩
    · simpa [ApdN.eqA] using ApdN.eqA ha
    refine p21_6 ?_
    refine in_add (by omega) (by omega) ?_
    have ha3 : Apd ts.length (ts ++ x') 49 a' (rowsN (.mk 1 w [] 0 :: (es ++ [.mk c s cs o]))) := by
      rw [← List.cons_append, rowsN_append]
      simpa [rowsN] using ha'
    obtain ⟨q1, q2, q3, q4⟩ := hq
    obtain ⟨r1, r2, r3, r4⟩ := hqn
    have := ihj (i + 1) k2 x' a' (es ++ [.mk c s cs o]) (by omega) (by omega) hk3 (by simp; omega) ⟨okNds_append q1 ⟨r1, trivial⟩, fewNs_append q2 ⟨r2, trivial⟩, by
        rw [nsizeL_append]
        simp only [nsizeL]
        omega, by
        intro e he
        rcases List.mem_append.1 he with h | h
        · exact q4 e h
        · simp only [List.mem_cons, List.not_mem_nil, or_false] at h
          rw [h]; exact r4⟩ ha3
    simpa using this
end
end Go.Proofs.YtmipbilokjkjiaaGreatDoor
/-
  Generated nodes: TypeNode.
-/
namespace Go.Proofs.YtmipbilokjkjiaaGreatDoor
open Go.Tel
attribute [local simp] wNew wBox wBoxZ markT wCond wBuild fillS wO setCells wSt wLd wPart LFE wFad alive wInt wStr wGK wGd wPick wExt wLen wSlen wNot wNil okI ceI okB ceB okS ceS okL ceL okC ceC okO ceO okP ceP okG ceG okE ceE okR ceR okF ceF okX ceX okM ceM okN ceN okNf ceNf okNi ceNi ceA roL roC roO leL leC leO tpP tpC tpO clP clC clO clF clA clT clN clL nbP nbC nbO nbN nbL toPVs
section
variable {R : Nat → Option (List PV)}
theorem typeNode_rec {bs : List (List AV)} {id : Nat} {l : List Int} (hB : Base bs id l) {W : List (List UInt8)} (hW : (env R).G 3 = some (strRow W)) (sW : Short W) (h9 : 9 ≤ W.length) : ∀ (μ d : Nat), d < 100 → ∀ {m : List (List AV)}, LocB bs m → ∀ {k : Nat}, k ≤ l.length → (l.length - k) * 100 + d < μ → ∀ (L : Lim), L.ro ≤ id → ∀ (ts : List (Nat × Nat)), L.rt ≤ ts.length →
    ∃ v s', (∃ n k' x, NRepO n v ∧ NdB (4 * (k' - k) + 1) d n ∧ k ≤ k' ∧ k' ≤ l.length ∧ s' = ⟨ST bs id l k' ++ m, ts ++ x⟩) ∧ CallE (env R) L 21 [.ptr id 0, I64 d] ⟨ST bs id l k ++ m, ts⟩ v s' := by
  intro μ
  induction μ with
  | zero => intro d _ m _ k _ h; omega
  | succ μ ih =>
    intro d hd m hm k hk hμ L hro ts hrt
    have hlen := hB.len
    have hlt := hB.lt
    obtain ⟨u1, u2, u3⟩ := sW
    suffices H : ∀ (rr : Bool) (N : Nat) (Post : AV → Sto → Prop), N = bs.length + m.length → (∀ n v k' x, NRepO n v → NdB (4 * (k' - k) + 1) d n → k ≤ k' → k' ≤ l.length → Post v ⟨ST bs id l k' ++ m, ts ++ x⟩) → P21_0 R 0 L.ro L.rt (.ptr id 0) (I64 d) ⟨ST bs id l k ++ m, ts⟩ (QM rr N Post) from
      m21 (by simp [noIdL, noId]) (H _ _ _ (by simp [ST_len]) fun n v k' x h1 h2 h3 h4 => ⟨n, k', x, h1, h2, h3, h4, rfl⟩)
    intro rr N Post hN hP
    have hm' : LocB bs (m ++ [[I64 0, SS [], .capped [], I64 0]]) := locB_push hm (by simp [idsLtL, idsLt])
    have g1 : L.ro ≤ bs.length + m.length := by omega
    -- a word
    have word : ∀ k1, k ≤ k1 → k1 ≤ l.length →
        wLd (env R) ⟨ST bs id l k1 ++ (m ++ [[I64 0, SS [], .capped [], I64 0]]), ts⟩ none (.gptr 3 0) fun a41 =>
        wLd (env R) ⟨ST bs id l k1 ++ (m ++ [[I64 0, SS [], .capped [], I64 0]]), ts⟩ none (.gptr 3 0) fun a43 =>
        wLen ⟨ST bs id l k1 ++ (m ++ [[I64 0, SS [], .capped [], I64 0]]), ts⟩ a43 fun a44 =>
        wCall (env R) (LFE (env R) 21 0 L.ro L.rt) (.func (.func 44) [] []) [(.ptr id 0), a44] ⟨ST bs id l k1 ++ (m ++ [[I64 0, SS [], .capped [], I64 0]]), ts⟩ fun a45 s1x5 =>
        wIdx s1x5 1 a41 a45 fun a46 =>
        wLd (env R) s1x5 none a46 fun a47 =>
        wBuild [(I64 0), (SS []), (.capped []), (I64 0)] [(0, 1, (I64 1)), (1, 1, a47)] fun a48 =>
        wSt (LFE (env R) 21 0 L.ro L.rt) s1x5 4 (.ptr (bs.length + m.length) 0) a48 fun s1x6 =>
        (wLd (env R) s1x5 none (.gptr 3 0) fun v => eqA v a41 = true) ∧
        wLd (env R) s1x6 (some 4) (.ptr (bs.length + m.length) 0) fun r =>
        QM rr N Post r s1x6 := by
      intro k1 hk1 hk2
      refine ld_glob hW (ld_glob hW (len_str ?_))
      refine wCall_do (next_spec (n := W.length) hB hm' hk2 (by omega) (by omega) _ (by simpa [LFE] using hro) ts) ?_
      rintro v s1 ⟨r2, k2, rfl, hr3, hr4, hk3, hk4, rfl⟩
      obtain ⟨w, hw⟩ : ∃ w, W[r2.toNat]? = some w := ⟨_, List.getElem?_eq_getElem (by omega)⟩
      refine idx_str hr3 hw (ld_str ?_)
      refine bd_of (cs := [I64 1, SS w, .capped [], I64 0]) (by simp) ?_
      have leaf := node_leaf (R := R) (Post := Post) (rr := rr) (N := N) (k := k2) (ts := ts) (Z := [I64 0, SS [], .capped [], I64 0]) (r := []) (L' := LFE (env R) 21 0 L.ro L.rt) hB hm rfl hN hro rfl (cs := []) (a := .capped []) (by simp [rowsN]; exact .inl (.capped _)) (c := 1) (o := 0) (s := w)
        (fun x hx => by
          have := hP (.mk 1 w [] 0) x k2 [] hx (NdB.leaf (u1 w (List.mem_of_getElem? hw)) (by omega)) (by omega) hk4
          simpa using this)
      exact wSt_and (ld_glob hW (eqA_strRows W)) leaf
    -- a list
    have listp : ∀ (h : List UInt8) (c k1 : Nat), h.length < 2 ^ 60 → c ≤ 3 → k < k1 → k1 ≤ l.length → 0 < d →
        P21_1 R 0 L.ro L.rt (.ptr id 0) (I64 d) (.ptr (bs.length + m.length) 0) (SS h) (I64 c) ⟨ST bs id l k1 ++ (m ++ [[I64 0, SS [], .capped [], I64 0]]), ts⟩ (QM rr N Post) := by
      intro h c k1 hh hc hk1 hk2 hd0
      refine p21_1 ?_
      refine wCall_do (next_spec2 (n := 20) hB hm' hk2 (by omega) (by omega) _ (by simpa [LFE] using hro) ts) ?_
      rintro v s1 ⟨r2, k2, rfl, hr3, hr4, hk3, hk4, hk5, rfl⟩
      have main : ∀ (cnt : Nat), cnt ≤ 4 → 2 + cnt ≤ 4 * (k2 - k) + 1 → P21_2 R 0 L.ro L.rt (.ptr id 0) (I64 d) (.ptr (bs.length + m.length) 0) (SS h) (I64 cnt) ⟨ST bs id l k2 ++ (m ++ [[I64 0, SS [], .capped [], I64 0]]), ts⟩ (QM rr N Post) := by
        intro cnt hc4 hsz
        refine p21_2 ?_
        refine bd_of (cs := [I64 1, SS h, .capped [], I64 0]) (by simp) ?_
        have hb1 : ∀ (s : Sto) (K : AV → Sto → Prop), K (.capped (rowsN [.mk 1 h [] 0])) s → wBsl false s 4 [(I64 0), (SS []), (.capped []), (I64 0)] 1 [(0, 4, .agg [I64 1, SS h, .capped [], I64 0])] K := by
          intro s K hK
          simp [wBsl, repl, rowsBy]
          simpa [rowsN, rowN] using hK
        refine hb1 _ _ ?_
        refine bd_of (cs := [I64 3, SS [], .capped (rowsN [.mk 1 h [] 0]), I64 0]) (by simp) ?_
        simp [loc_get, loc_get0, loc_set, loc_set0, ST_len]
        have e1 : ∀ z : List AV, (ST bs id l k2 ++ (m ++ [[I64 0, SS [], .capped [], I64 0], z]))[bs.length + (m.length + 1)]? = some z := fun z => by
          have := loc_get (bs := bs) (id := id) (l := l) k2 m [[I64 0, SS [], .capped [], I64 0], z] 1
          simpa [Nat.add_assoc] using this
        have e2 : ∀ z y : List AV, (ST bs id l k2 ++ (m ++ [[I64 0, SS [], .capped [], I64 0], z])).set (bs.length + (m.length + 1)) y = ST bs id l k2 ++ (m ++ [[I64 0, SS [], .capped [], I64 0], y]) := fun z y => by
          have := loc_set (bs := bs) (id := id) (l := l) k2 m [[I64 0, SS [], .capped [], I64 0], z] 1 y
          simpa [Nat.add_assoc] using this
        simp [e1, e2, show L.ro ≤ bs.length + (m.length + 1) by omega]
        have e3 : ((d - 1 : Nat) : Int) = (d : Int) - 1 := by omega
        have := type_loop (R := R) (rr := rr) (N := N) (Post := Post) (k0 := k2) (ts := ts) (d := d) (ro := L.ro) (rt := L.rt) (g := d - 1) (cnt := cnt) (w := h) hB hm hro hrt (by omega) (by omega) hN (by omega) (fun {m'} h1 {k'} h2 h3 L' h4 ts' h5 => by
            have := ih (d - 1) (by omega) h1 (k := k') h3 (by
              have : (l.length - k') * 100 ≤ (l.length - k) * 100 := Nat.mul_le_mul_right _ (by omega)
              omega) L' h4 ts' h5
            rwa [e3] at this)
          (fun es v k' ts' h1 h2 h3 h4 h5 => hP _ v k' ts' h3 ⟨by simp only [okNd, okNds]; exact ⟨by simp, ⟨hh, trivial⟩, h2.1⟩, by simp only [fewN, fewNs]; exact ⟨by simp; omega, ⟨by simp, trivial⟩, h2.2.1⟩, by
              simp only [nsize, nsizeL]
              have := h2.2.2.1
              omega, by
              simp only [grow]
              have := growL_le (l := .mk 1 h [] 0 :: es) (g := d - 1) (by
                intro c hc
                rcases List.mem_cons.1 hc with rfl | hc
                · simp [grow, growL]
                · exact h2.2.2.2 c hc)
              omega⟩ (by omega) h5) cnt 0 k2 [] (.capped (rowsN [.mk 1 h [] 0])) [] (by omega) (by omega) hk4 rfl (by simp [okNds, fewNs, nsizeL]) (.inl rfl)
        simpa [Nat.add_assoc, rowsN] using this
      refine in_eql ?_
      cases b19 : (r2 == 19) with
      | true =>
        have e : r2 = 19 := by simpa using b19
        refine co_t (in_add (by omega) (by omega) ?_)
        have h0 := hk5 (by omega)
        have := main (c + 1) (by omega) (by omega)
        simpa using this
      | false => exact co_f (main c (by omega) (by omega))
    refine p21_0 ?_
    simp only [wNew, List.append_assoc, List.length_append, ST_len]
    refine wCall_do (next_spec2 (n := 9) hB hm' hk (by omega) (by omega) _ (by simpa [LFE] using hro) ts) ?_
    rintro v s1 ⟨r, k1, rfl, hr1, hr2, hk1, hk2, hk3, rfl⟩
    refine in_lss ?_
    cases b3 : (decide (r < 3)) with
    | true => exact gk_f (by simp) (gk_f (by simp) (pk (co_t (word k1 hk1 hk2))))
    | false =>
      have hr3 : ¬ r < 3 := by simpa using b3
      have hkk : k < k1 := hk3 (by omega)
      refine gk_t (gk_t (in_leq (pk ?_)))
      cases b0 : (decide ((d : Int) ≤ 0)) with
      | true => exact co_t (word k1 hk1 hk2)
      | false =>
        have hd0 : 0 < d := by simp at b0; omega
        refine co_f (in_eql ?_)
        cases c3 : (r == 3) with
        | true => exact co_t (listp _ 1 k1 (by simp) (by omega) hkk hk2 hd0)
        | false =>
          refine co_f (in_eql ?_)
          cases c4 : (r == 4) with
          | true => exact co_t (listp _ 2 k1 (by simp) (by omega) hkk hk2 hd0)
          | false =>
            refine co_f (in_eql ?_)
            cases c5 : (r == 5) with
            | true =>
              refine co_t ?_
              refine wCall_do (next_spec (n := 4) hB hm' hk2 (by omega) (by omega) _ (by simpa [LFE] using hro) ts) ?_
              rintro v s1 ⟨r2, k2, rfl, hr4, hr5, hk4, hk5, rfl⟩
              obtain ⟨j, rfl⟩ := Int.eq_ofNat_of_zero_le hr4
              exact listp _ j k2 (by simp) (by omega) (by omega) hk5 hd0
            | false =>
              refine co_f (in_eql ?_)
              cases c6 : (r == 6) with
              | true => exact co_t (listp _ 2 k1 (by simp) (by omega) hkk hk2 hd0)
              | false =>
                refine co_f ?_
                refine bd_of (cs := [I64 1, SS [101, 120, 105, 115, 116, 115], .capped [], I64 0]) (by simp) ?_
                have eL : (ST bs id l k1 ++ (m ++ [[I64 0, SS [], .capped [], I64 0]])).length = bs.length + (m.length + 1) := by simp [ST_len, Nat.add_assoc]
                have eA : (ST bs id l k1 ++ (m ++ [[I64 0, SS [], .capped [], I64 0]])) ++ [[I64 0, SS [], .capped [], I64 0]] = ST bs id l k1 ++ (m ++ [[I64 0, SS [], .capped [], I64 0], [I64 0, SS [], .capped [], I64 0]]) := by simp
                simp only [eL, eA]
                have ge : ∀ (k' : Nat) (z y : List AV), (ST bs id l k' ++ (m ++ [y, z]))[bs.length + (m.length + 1)]? = some z := fun k' z y => by
                  have := loc_get (bs := bs) (id := id) (l := l) k' m [y, z] 1
                  simpa [Nat.add_assoc] using this
                have se : ∀ (k' : Nat) (z y w : List AV), (ST bs id l k' ++ (m ++ [y, z])).set (bs.length + (m.length + 1)) w = ST bs id l k' ++ (m ++ [y, w]) := fun k' z y w => by
                  have := loc_set (bs := bs) (id := id) (l := l) k' m [y, z] 1 w
                  simpa [Nat.add_assoc] using this
                have ids : ∀ (a : AV) (rows : List (List PV)), RowsO a rows → LocB bs (m ++ [[I64 0, SS [], .capped [], I64 0], [I64 3, SS [], a, I64 0]]) := fun a rows ha => locB_push hm (by simp [idsLtL, idsLt, ha.idsLt])
                have ids0 : LocB bs (m ++ [[I64 0, SS [], .capped [], I64 0], [I64 0, SS [], .capped [], I64 0]]) := locB_push hm (by simp [idsLtL, idsLt])
                have g2 : L.ro ≤ bs.length + (m.length + 1) := by omega
                refine ld_glob hW ?_
                refine wCall_do (next_spec (n := 9) hB ids0 hk2 (by omega) (by omega) _ (by simpa [LFE] using hro) ts) ?_
                rintro v s1 ⟨r2, k2, rfl, hr4, hr5, hk4, hk5, rfl⟩
                obtain ⟨w, hw⟩ : ∃ w, W[r2.toNat]? = some w := ⟨_, List.getElem?_eq_getElem (by omega)⟩
                have hwl := u1 w (List.mem_of_getElem? hw)
                refine idx_str hr4 hw (ld_str ?_)
                refine bd_of (cs := [I64 1, SS w, .capped [], I64 0]) (by simp) ?_
                have hb2 : ∀ (s : Sto) (K : AV → Sto → Prop), K (.capped (rowsN [.mk 1 [101, 120, 105, 115, 116, 115] [] 0, .mk 1 w [] 0])) s → wBsl false s 4 [I64 0, SS [], .capped [], I64 0] 2 [(0, 4, .agg [I64 1, SS [101, 120, 105, 115, 116, 115], .capped [], I64 0]), (4, 4, .agg [I64 1, SS w, .capped [], I64 0])] K := by
                  intro s K hK
                  simp [wBsl, repl, rowsBy]
                  simpa [rowsN, rowN] using hK
                refine hb2 _ _ ?_
                refine bd_of (cs := [I64 3, SS [], .capped (rowsN [.mk 1 [101, 120, 105, 115, 116, 115] [] 0, .mk 1 w [] 0]), I64 0]) (by simp) ?_
                have hst : ∀ (k' : Nat) (t : List (Nat × Nat)) (a : AV) (rows : List (List PV)) (K : Sto → Prop), RowsO a rows → K ⟨ST bs id l k' ++ (m ++ [[I64 0, SS [], .capped [], I64 0], [I64 3, SS [], a, I64 0]]), t⟩ → wSt (LFE (env R) 21 0 L.ro L.rt) ⟨ST bs id l k' ++ (m ++ [[I64 0, SS [], .capped [], I64 0], [I64 0, SS [], .capped [], I64 0]]), t⟩ 4 (.ptr (bs.length + (m.length + 1)) 0) (.agg [I64 3, SS [], a, I64 0]) K := by
                  intro k' t a rows K ha hK
                  simp [ge, se, g2, ha.ok, ha.noBlk]
                  exact hK
                refine hst k2 ts _ _ _ (.inl (.capped _)) ?_
                refine ⟨ld_glob hW (eqA_strRows W), by simp [idOf, wO, ge, eqAL, eqA, eqP, eqV_int, eqV_str, eqPLL], by simp [idOf, wO, ge, eqAL, eqA, eqP, eqV_int, eqV_str, eqPLL], ?_⟩
                have hfd : ∀ (k' : Nat) (t : List (Nat × Nat)) (z0 z1 z2 z3 : AV) (K : AV → Prop), K (.ptr (bs.length + (m.length + 1)) 2) → wFad ⟨ST bs id l k' ++ (m ++ [[I64 0, SS [], .capped [], I64 0], [z0, z1, z2, z3]]), t⟩ (.ptr (bs.length + (m.length + 1)) 0) 2 K := by
                  intro k' t z0 z1 z2 z3 K hK
                  simp [ge]
                  exact hK
                have hl2 : ∀ (k' : Nat) (t : List (Nat × Nat)) (z0 z1 z2 z3 : AV) (K : AV → Prop), K z2 → wLd (env R) ⟨ST bs id l k' ++ (m ++ [[I64 0, SS [], .capped [], I64 0], [z0, z1, z2, z3]]), t⟩ none (.ptr (bs.length + (m.length + 1)) 2) K := by
                  intro k' t z0 z1 z2 z3 K hK
                  simp [ge]
                  exact hK
                refine hfd _ _ _ _ _ _ _ (hl2 _ _ _ _ _ _ _ ?_)
                have c1 : LocB bs (m ++ [[I64 0, SS [], .capped [], I64 0], [I64 3, SS [], .capped (rowsN [.mk 1 [101, 120, 105, 115, 116, 115] [] 0, .mk 1 w [] 0]), I64 0]]) := ids _ _ (.inl (.capped _))
                have mu : ∀ k', k1 ≤ k' → (l.length - k') * 100 ≤ (l.length - k1) * 100 := fun k' h => Nat.mul_le_mul_right _ (by omega)
                have mu1 : (l.length - k1) * 100 + 100 ≤ (l.length - k) * 100 := by
                  have : (l.length - k1 + 1) * 100 ≤ (l.length - k) * 100 := Nat.mul_le_mul_right _ (by omega)
                  omega
                refine wCall_do (ih 1 (by omega) c1 hk5 (by have := mu k2 (by omega); omega) (LFE (env R) 21 0 L.ro L.rt) hro ts (by simpa [LFE] using hrt)) ?_
                rintro v s1 ⟨n1, k3, x1, hv1, hn1, hk6, hk7, rfl⟩
                refine in_sub (by omega) (by omega) ?_
                have e3 : ((d - 1 : Nat) : Int) = (d : Int) - 1 := by omega
                have ih2 := ih (d - 1) (by omega) c1 hk7 (by have := mu k3 (by omega); omega) (LFE (env R) 21 0 L.ro L.rt) hro (ts ++ x1) (by simp [LFE]; omega)
                rw [e3] at ih2
                refine wCall_do ih2 ?_
                rintro v s1 ⟨n2, k4, x2, hv2, hn2, hk8, hk9, rfl⟩
                obtain ⟨c1, s1, cs1, o1⟩ := n1
                obtain ⟨a1, rfl, ha1⟩ := hv1
                obtain ⟨c2, s2, cs2, o2⟩ := n2
                obtain ⟨a2, rfl, ha2⟩ := hv2
                have hb3 : ∀ (s : Sto) (K : AV → Sto → Prop), K (.capped (rowsN [.mk c1 s1 cs1 o1, .mk c2 s2 cs2 o2])) s → wBsl false s 4 [I64 0, SS [], .capped [], I64 0] 2 [(0, 4, .agg [I64 c1, SS s1, a1, I64 o1]), (4, 4, .agg [I64 c2, SS s2, a2, I64 o2])] K := by
                  intro s K hK
                  simp [wBsl, repl, rowsBy, ha1.ok, ha1.toPV, ha2.ok, ha2.toPV]
                  simpa [rowsN, rowN] using hK
                refine hb3 _ _ ⟨by simp, ?_⟩
                have hap : ∀ K : AV → Sto → Prop, (∀ a' x', Apd ts.length (ts ++ x') 49 a' (rowsN [.mk 1 [101, 120, 105, 115, 116, 115] [] 0, .mk 1 w [] 0] ++ rowsN [.mk c1 s1 cs1 o1, .mk c2 s2 cs2 o2]) → K a' ⟨ST bs id l k4 ++ (m ++ [[I64 0, SS [], .capped [], I64 0], [I64 3, SS [], .capped (rowsN [.mk 1 [101, 120, 105, 115, 116, 115] [] 0, .mk 1 w [] 0]), I64 0]]), ts ++ x'⟩) →
                    wApp false (LFE (env R) 21 0 L.ro L.rt) ⟨ST bs id l k4 ++ (m ++ [[I64 0, SS [], .capped [], I64 0], [I64 3, SS [], .capped (rowsN [.mk 1 [101, 120, 105, 115, 116, 115] [] 0, .mk 1 w [] 0]), I64 0]]), (ts ++ x1) ++ x2⟩ 49 4 56 (.capped (rowsN [.mk 1 [101, 120, 105, 115, 116, 115] [] 0, .mk 1 w [] 0])) (.capped (rowsN [.mk c1 s1 cs1 o1, .mk c2 s2 cs2 o2])) K := by
                  intro K hK
                  rw [List.append_assoc ts x1 x2]
                  refine wApp_rows (L := LFE (env R) 21 0 L.ro L.rt) (ts := ts) (x := x1 ++ x2) (rows := rowsN [.mk 1 [101, 120, 105, 115, 116, 115] [] 0, .mk 1 w [] 0]) (m := rowsN [.mk c1 s1 cs1 o1, .mk c2 s2 cs2 o2]) (.inl rfl) hrt (fun r hr => rowsN_row hr) (fun r hr => rowsN_row hr) (by omega) (srcCells_rows (.inl (.capped _)) fun r hr => rowsN_row hr) (by simp [rowsN, rowN, okCell]) (by simp [rowsN_len]) (by simp [rowsN_len]) hK
                refine hap _ ?_
                intro a' x' ha'
                have ho' := ha'.rowsO
                refine hfd _ _ _ _ _ _ _ ?_
                have e6 : rowsN [.mk 1 [101, 120, 105, 115, 116, 115] [] 0, .mk 1 w [] 0] ++ rowsN [.mk c1 s1 cs1 o1, .mk c2 s2 cs2 o2] = rowsN [.mk 1 [101, 120, 105, 115, 116, 115] [] 0, .mk 1 w [] 0, .mk c1 s1 cs1 o1, .mk c2 s2 cs2 o2] := by simp [rowsN]
                rw [e6] at ho'
                have hs1 : ∀ (t : List (Nat × Nat)) (a : AV) (K : Sto → Prop), K ⟨ST bs id l k4 ++ (m ++ [[I64 0, SS [], .capped [], I64 0], [I64 3, SS [], a', I64 0]]), t⟩ → wSt (LFE (env R) 21 0 L.ro L.rt) ⟨ST bs id l k4 ++ (m ++ [[I64 0, SS [], .capped [], I64 0], [I64 3, SS [], a, I64 0]]), t⟩ 1 (.ptr (bs.length + (m.length + 1)) 2) a' K := by
                  intro t a K hK
                  simp [ge, se, g2, ho'.ok, ho'.noBlk, ho'.cells]
                  exact hK
                refine hs1 _ _ _ ?_
                have qeq : eqA (.capped (rowsN [.mk 1 [101, 120, 105, 115, 116, 115] [] 0, .mk 1 w [] 0])) (.capped (rowsN [.mk 1 [101, 120, 105, 115, 116, 115] [] 0, .mk 1 w [] 0])) = true := by simp [eqA, eqPLL_rowsN]
                refine ⟨hfd _ _ _ _ _ _ _ (by simp [eqA]), hfd _ _ _ _ _ _ _ (by simp [eqA]), hl2 _ _ _ _ _ _ _ qeq, hl2 _ _ _ _ _ _ _ qeq, in_sub (by omega) (by omega) (eqA_I _), ?_⟩
                obtain ⟨p1, p2, p3, p4⟩ := hn1
                obtain ⟨q1, q2, q3, q4⟩ := hn2
                have hnd : NdB (4 * (k4 - k) + 1) d (.mk 3 [] [.mk 1 [101, 120, 105, 115, 116, 115] [] 0, .mk 1 w [] 0, .mk c1 s1 cs1 o1, .mk c2 s2 cs2 o2] 0) := by
                  simp only [nsize] at p3 q3
                  simp only [okNd] at p1 q1
                  simp only [fewN] at p2 q2
                  simp only [grow] at p4 q4
                  refine ⟨?_, ?_, ?_, ?_⟩
                  · simp [okNd, okNds, p1, q1, hwl]
                  · simp [fewN, fewNs, p2, q2]
                  · simp only [nsize, nsizeL]
                    omega
                  · simp only [grow, growL]
                    omega
                have leaf := node_leaf (R := R) (Post := Post) (rr := rr) (N := N) (k := k4) (ts := ts ++ x') (Z := [I64 0, SS [], .capped [], I64 0]) (r := [[I64 3, SS [], a', I64 0]]) (L' := LFE (env R) 21 0 L.ro L.rt) hB hm rfl hN hro rfl ho' (c := 3) (o := 0) (s := []) (fun y hy => hP _ y k4 x' hy hnd (by omega) hk9)
                have hl4 : ∀ (t : List (Nat × Nat)) (K : AV → Prop), K (.agg [I64 3, SS [], a', I64 0]) → wLd (env R) ⟨ST bs id l k4 ++ (m ++ [[I64 0, SS [], .capped [], I64 0], [I64 3, SS [], a', I64 0]]), t⟩ (some 4) (.ptr (bs.length + (m.length + 1)) 0) K := by
                  intro t K hK
                  simp [ge]
                  exact hK
                exact hl4 _ _ leaf
theorem typeNode_spec {bs : List (List AV)} {id : Nat} {l : List Int} (hB : Base bs id l) {W : List (List UInt8)} (hW : (env R).G 3 = some (strRow W)) (sW : Short W) (h9 : 9 ≤ W.length) (d : Nat) (hd : d < 100) {m : List (List AV)} (hm : LocB bs m) {k : Nat} (hk : k ≤ l.length) (L : Lim) (hro : L.ro ≤ id) (ts : List (Nat × Nat)) (hrt : L.rt ≤ ts.length) :
    ∃ v s', (∃ n k' x, NRepO n v ∧ NdB (4 * (k' - k) + 1) d n ∧ k ≤ k' ∧ k' ≤ l.length ∧ s' = ⟨ST bs id l k' ++ m, ts ++ x⟩) ∧ CallE (env R) L 21 [.ptr id 0, I64 d] ⟨ST bs id l k ++ m, ts⟩ v s' :=
  typeNode_rec hB hW sW h9 _ d hd hm hk (Nat.lt_succ_self _) L hro ts hrt
end
end Go.Proofs.YtmipbilokjkjiaaGreatDoor
/-
  Node: a node of the reference as one of the program.
-/
namespace Go.Proofs.YtmipbilokjkjiaaGreatDoor
open Go.Tel
attribute [local simp] wNew wBox wBoxZ markT wCond wBuild fillS wO setCells wSt wLd wPart LFE wFad alive wInt wStr wGK wGd wPick wExt wLen wSlen wNot wNil okI ceI okB ceB okS ceS okL ceL okC ceC okO ceO okP ceP okG ceG okE ceE okR ceR okF ceF okX ceX okM ceM okN ceN okNf ceNf okNi ceNi ceA roL roC roO leL leC leO tpP tpC tpO clP clC clO clF clA clT clN clL nbP nbC nbO nbN nbL toPVs
section
variable {R : Nat → Option (List PV)}
theorem node_loop {k o : Int} {s : List UInt8} {cs : List Nd} {a : AV} (ha : RowsA a (rowsN cs)) (hl : cs.length < 2 ^ 38)
    (ih : ∀ c ∈ cs, PureC (env R) 23 [.agg ((rowN c).map .pv)] fun r => NRep c r) {Post : AV → Prop} (hP : ∀ r, NRep (.mk k s cs o) r → Post r) :
    ∀ (j q : Nat) (x : List (Nat × TypeId)) (b : AV), q + j = cs.length → Apd 0 x 55 b (rowsN (cs.take q)) →
      P23_1 R 0 0 0 (.ptr 0 0) (.ptr 1 0) (.ptr 2 0) (I64 q) ⟨[[I64 k, SS s, a, I64 o], [I64 0, SS [], .capped [], I64 0], [I64 k, SS s, b, I64 o]], x⟩ (QP Post) := by
  intro j
  induction j with
  | zero =>
    intro q x b hi hb
    refine p23_1 ?_
    have h1 : ¬ ((q : Int) < cs.length) := by omega
    simp [ha.lenA, rowsN_len, h1]
    refine p23_3 ?_
    have ho := hb.rowsO
    obtain ⟨b', hc, hr⟩ := ho.closed ([[I64 k, SS s, a, I64 o], [I64 k, SS s, b, I64 o], [I64 k, SS s, b, I64 o]] : List (List AV)) 0
    simp [QP, QI, ho.ok, hc]
    have e : cs.take q = cs := List.take_of_length_le (by omega)
    rw [e] at hr
    exact hP _ ⟨b', rfl, hr⟩
  | succ j ihj =>
    intro q x b hi hb
    refine p23_1 ?_
    have ho := hb.rowsO
    have h1 : ((q : Int) < cs.length) := by omega
    obtain ⟨c, hc⟩ : ∃ c, cs[q]? = some c := ⟨_, List.getElem?_eq_getElem (by omega)⟩
    simp [ha.lenA, rowsN_len, h1]
    refine p23_2 ?_
    simp
    refine wIdx_rows ha (row := rowN c) (by omega) (by simpa using rowsN_get hc) (rowN_len c) (by omega) ?_
    have etk : List.take 4 ((rowN c).map AV.pv) = (rowN c).map .pv := List.take_of_length_le (by simp [rowN_len])
    simp [rowN_len]
    rw [etk]
    refine wCall_pure (ih c (List.mem_of_getElem? hc)) ?_
    intro r hr
    obtain ⟨c1, s1, cs1, o1⟩ := c
    obtain ⟨a1, rfl, ha1⟩ := hr
    simp [wBsl, repl, ha1.ok, ha1.toPV]
    have hrow : rowsBy 4 1 [PV.sc (.int .i64 c1), .sc (.string ⟨s1.toArray⟩), .list (rowsN cs1), .sc (.int .i64 o1)] = [rowN (.mk c1 s1 cs1 o1)] := by simp [rowsBy, rowN]
    rw [hrow]
    refine wApp_row (ts := []) (x := x) (row := rowN (.mk c1 s1 cs1 o1)) hb (by simp [LFE]) (fun r hr => rowsN_row hr) (rowN_len _) (by omega) (rowN_ok _) (by simp [rowsN_len]; omega) (by simp [rowsN_len]; omega) ?_
    intro b' x' hb'
    have ho' := hb'.rowsO
    simp [ho'.ok, ho'.cells, ho'.noBlk]
    refine ⟨by simp [eqA], by simpa [ApdN.eqA] using ApdN.eqA hb, ?_⟩
    refine p23_4 (in_add (by omega) (by omega) ?_)
    have e : rowsN (cs.take q) ++ [rowN (.mk c1 s1 cs1 o1)] = rowsN (cs.take (q + 1)) := by
      rw [List.take_add_one, hc]
      simp [rowsN_append, rowsN]
    rw [e] at hb'
    have := ihj (q + 1) x' b' (by omega) (by simpa using hb')
    simpa using this
mutual
theorem node_spec : ∀ (n : Nd), fewN n → ∀ (x : AV), NRep n x → PureC (env R) 23 [x] fun r => NRep n r
  | .mk k s cs o, hf, x, hx => by
    obtain ⟨a, rfl, ha⟩ := hx
    simp only [fewN] at hf
    have ih := nodes_spec cs hf.2
    suffices H : ∀ Post : AV → Prop, (∀ r, NRep (.mk k s cs o) r → Post r) → P23_0 R 0 0 0 (.agg [I64 k, SS s, a, I64 o]) ⟨[], []⟩ (QP Post) from
      e23 (u0 := .agg [I64 k, SS s, a, I64 o]) (by simp [ha.close]) (H _ fun r h => h)
    intro Post hP
    refine p23_0 ?_
    simp [ha.ok]
    exact node_loop ha (by omega) ih hP cs.length 0 [] (.capped []) (by omega) (.inl (by simp [rowsN]))
theorem nodes_spec : ∀ (l : List Nd), fewNs l → ∀ c ∈ l, PureC (env R) 23 [.agg ((rowN c).map .pv)] fun r => NRep c r
  | [], _, _, h => by cases h
  | e :: l, hf, a, h => by
    simp only [fewNs] at hf
    rcases List.mem_cons.1 h with h' | h'
    · rw [h']
      exact node_spec e hf.1 _ (NRep.of_row e)
    · exact nodes_spec l hf.2 a h'
end
end
end Go.Proofs.YtmipbilokjkjiaaGreatDoor
