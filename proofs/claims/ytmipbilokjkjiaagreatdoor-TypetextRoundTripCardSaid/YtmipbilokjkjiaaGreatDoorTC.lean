/-
  Streams.
-/
import Derived.Test.YtmipbilokjkjiaaGreatDoorTB
import Derived.Test.YtmipbilokjkjiaaGreatDoorW1
import Derived.Laws.Strings3
set_option linter.unusedSimpArgs false
set_option linter.unusedVariables false
namespace Go.Proofs.YtmipbilokjkjiaaGreatDoor
open Go.Tel
attribute [local simp] wNew wBox wBoxZ markT wCond wBuild fillS wO setCells wSt wLd wPart LFE wFad alive wInt wStr wGK wGd wPick wExt wLen wSlen wNot wNil okI ceI okB ceB okS ceS okL ceL okC ceC okO ceO okP ceP okG ceG okE ceE okR ceR okF ceF okX ceX okM ceM okN ceN okNf ceNf okNi ceNi ceA roL roC roO leL leC leO tpP tpC tpO clP clC clO clF clA clT clN clL nbP nbC nbO nbN nbL toPVs g0 g1 xI xL xM xF xG xC lf Y4 Y5
section
variable {R : Nat → Option (List PV)}
theorem tmod_gt (a : Int) {b : Int} (hb : 0 < b) : -b < a.tmod b := by
  by_cases ha : 0 ≤ a
  · have := Int.tmod_nonneg b ha
    omega
  · have h1 : (-a).tmod b < b := Int.tmod_lt_of_pos _ hb
    have h2 := Int.neg_tmod a b
    omega
theorem mod_spec (a b : Int) (hb : 0 < b) (hb2 : b < 2 ^ 62) : PureC (env R) 18 [I64 a, I64 b] fun v => ∃ r, v = I64 r ∧ 0 ≤ r ∧ r < b := by
  refine e18 rfl (p18_0 ?_)
  have h1 := Int.tmod_lt_of_pos a hb
  have h2 := tmod_gt a hb
  simp only [wInt, wCond, xI]
  refine ⟨⟨aLs0000, aLs0000⟩, by omega, ⟨aLs0000, aLs0000⟩, fun h => ?_, fun h => ?_⟩
  · simp at h
    refine ⟨⟨aLs0000, aLs0000⟩, wAri_fit (by omega) (by omega) (p18_1 ?_)⟩
    exact ⟨_, clP, _, rfl, by omega, by omega⟩
  · simp at h
    refine p18_1 ?_
    exact ⟨_, clP, _, rfl, by omega, by omega⟩
theorem ST_alive {bs : List (List AV)} {id : Nat} {l : Src} {k : Nat} {ts : List (Nat × Nat)} (h : id < bs.length) (m : List (List AV)) : alive ⟨ST bs id l k ++ m, ts⟩ id = true := by
  simp [alive, ST_get h, StB]
theorem keep_all {bs : List (List AV)} {id : Nat} {l : Src} (hB : Base bs id l) {m : List (List AV)} (hm : LocB bs m) (k : Nat) {n : Nat} (hn : n = bs.length + m.length) : (((ST bs id l k ++ m).take n).all (idsLtL n)) = true := by
  rw [aLs0019 (by simp [ST_len]; omega), hn]
  exact hB.all hm k
theorem QM_ST {rr : Bool} {N : Nat} {bs : List (List AV)} {id : Nat} {l : Src} (hB : Base bs id l) {m : List (List AV)} (hm : LocB bs m) {k : Nat} {ts : List (Nat × Nat)} {Post : AV → Sto → Prop} {p : PV} (hN : N = bs.length + m.length)
    (h : Post (.pv p) ⟨ST bs id l k ++ m, ts⟩) : QM rr N Post (.pv p) ⟨ST bs id l k ++ m, ts⟩ := by
  refine QM_pv (keep_all hB hm k hN) ?_
  have : (ST bs id l k ++ m).take N = ST bs id l k ++ m := aLs0019 (by simp [ST_len]; omega)
  simpa [this] using h
theorem next_spec2 {bs : List (List AV)} {id : Nat} {l : Src} (hB : Base bs id l) {m : List (List AV)} (hm : LocB bs m) {k : Nat} (hk : k ≤ l.length) {n : Int} (hn : 0 < n) (hn2 : n < 2 ^ 62) (L : Lim) (hro : L.ro ≤ id) (ts : List (Nat × Nat)) :
    ∃ v s', (∃ r k', v = I64 r ∧ 0 ≤ r ∧ r < n ∧ k ≤ k' ∧ k' ≤ l.length ∧ (r ≠ 0 → k < k') ∧ s' = ⟨ST bs id l k' ++ m, ts⟩) ∧ CallE (env R) L 44 [.ptr id 0, I64 n] ⟨ST bs id l k ++ m, ts⟩ v s' := by
  have hlen := hB.len
  have hlt := hB.lt
  suffices H : ∀ (rr : Bool) (N : Nat) (Post : AV → Sto → Prop), N = bs.length + m.length → (∀ r k', 0 ≤ r → r < n → k ≤ k' → k' ≤ l.length → (r ≠ 0 → k < k') → Post (I64 r) ⟨ST bs id l k' ++ m, ts⟩) → P44_0 R 0 L.ro L.rt (.ptr id 0) (I64 n) ⟨ST bs id l k ++ m, ts⟩ (QM rr N Post) from
    m44 (by simp [noIdL, noId]) (H _ _ _ (by simp [ST_len]) fun r k' h1 h2 h3 h4 h5 => ⟨r, k', rfl, h1, h2, h3, h4, h5, rfl⟩)
  intro rr N Post hN hP
  refine p44_0 ?_
  by_cases h : k = l.length
  · have h1 : ((k : Int) ≥ l.length) := by omega
    simp [ST_get hlt, StB, l.lenC, l.okC, h]
    rw [← h]
    exact QM_ST hB hm hN (hP 0 k (by omega) hn (by omega) (by omega) (by omega))
  · have h1 : ¬ ((l.length : Int) ≤ k) := by omega
    simp [ST_get hlt, StB, l.lenC, l.okC]
    refine ⟨fun h2 => absurd h2 (by omega), fun _ => ?_⟩
    refine p44_1 ?_
    obtain ⟨a, ha⟩ : ∃ a, l.ints[k]? = some a := ⟨_, aLs0008 (by have : l.length = l.ints.length := rfl; omega)⟩
    simp only [wNil, ST_alive hlt, wFad, wLd, wO, ST_get hlt, wInt, xI, xL, xM, xF, xG]
    refine ⟨aLs0000, aLs0000, ?_⟩
    simp only [StB, wPart, wO, aLs0027, aLs0017, aLs0031]
    refine ⟨⟨aLs0000, aLs0000⟩, wAri_fit (by omega) (by omega) ?_⟩
    simp only [wNil, ST_alive hlt, wFad, wSt, wO, ST_get hlt, LFE, ceI, xF, xG, lf]
    refine ⟨aLs0000, aLs0000, ⟨by simp, by simp [StB], hro, by simp [okI], .inl (by omega), by omega⟩, ?_⟩
    have e : (ST bs id l k ++ m).set id (setCells (StB l k) (0 + 1) [I64 (k + 1)]) = ST bs id l (k + 1) ++ m := by
      have : setCells (StB l k) (0 + 1) [I64 (k + 1)] = StB l (k + 1) := by simp [StB, setCells]
      rw [this]
      exact ST_set hlt m
    simp only [e, wNil, ST_alive hlt, wFad, wLd, wO, ST_get hlt, xL, xM, xF, xG]
    refine ⟨aLs0000, aLs0000, ?_⟩
    simp only [StB, wPart, wO, aLs0027, aLs0017, aLs0031]
    refine ⟨aLs0000, aLs0000, ⟨aLs0000, aLs0000⟩, wAri_fit (by omega) (by omega) ?_⟩
    refine wIdx_rowsO l.rows (row := [.sc (.int .i64 a)]) (by omega) ?_ rfl (by omega) ?_
    · have : ((k + 1 : Nat) - 1 : Int).toNat = k := by omega
      simp [this, intRows, ha]
    simp only [wLd, wPart, wO, aLs0018, aLs0026, aLs0017, xL, xM, xF, xG]
    refine wCall_pure (mod_spec a n hn hn2) ?_
    rintro v ⟨r, rfl, hr1, hr2⟩
    exact QM_ST hB hm hN (hP r (k + 1) hr1 hr2 (by omega) (by omega) (by omega))
theorem next_spec {bs : List (List AV)} {id : Nat} {l : Src} (hB : Base bs id l) {m : List (List AV)} (hm : LocB bs m) {k : Nat} (hk : k ≤ l.length) {n : Int} (hn : 0 < n) (hn2 : n < 2 ^ 62) (L : Lim) (hro : L.ro ≤ id) (ts : List (Nat × Nat)) :
    ∃ v s', (∃ r k', v = I64 r ∧ 0 ≤ r ∧ r < n ∧ k ≤ k' ∧ k' ≤ l.length ∧ s' = ⟨ST bs id l k' ++ m, ts⟩) ∧ CallE (env R) L 44 [.ptr id 0, I64 n] ⟨ST bs id l k ++ m, ts⟩ v s' := by
  obtain ⟨v, s', ⟨r, k', h1, h2, h3, h4, h5, _, h6⟩, h7⟩ := next_spec2 (R := R) hB hm hk hn hn2 L hro ts
  exact ⟨v, s', ⟨r, k', h1, h2, h3, h4, h5, h6⟩, h7⟩
theorem new_spec (l : List Int) (L : Lim) (s : Sto) : ∃ v s', (v = .ptr s.bs.length 0 ∧ s' = ⟨s.bs ++ [StB (.of l) 0], s.ts⟩) ∧ CallE (env R) L 8 [.pv (.list (intRows l))] s v s' := by
  refine m8 (p8_0 ?_)
  simp [StB, Src.of]
end
theorem gk_t {b : Bool} {s : Sto} {W : (AV → Sto → Prop) → Prop} {K : AV → Sto → Prop} (h : W K) : wGK (BB b) b s W K := ⟨fun _ => h, fun h => absurd rfl h⟩
theorem gk_f {b c : Bool} {s : Sto} {W : (AV → Sto → Prop) → Prop} {K : AV → Sto → Prop} (hn : b ≠ c) (h : K (.tuple []) s) : wGK (BB b) c s W K := ⟨fun h => absurd h hn, fun _ => h⟩
theorem co_t {A B : Prop} (h : A) : wCond (BB true) A B := ⟨fun _ => h, fun h => by cases h⟩
theorem co_f {A B : Prop} (h : B) : wCond (BB false) A B := ⟨fun h => (by cases h), fun _ => h⟩
theorem pk {c : Bool} {a b : AV} {K : AV → Prop} (h : K (bif c then a else b)) : wPick (BB c) a b K := h
theorem in_eql {a b : Int} {K : AV → Prop} (h : K (BB (a == b))) : wInt .i64 .eql (I64 a) (I64 b) K := ⟨⟨rfl, rfl⟩, h⟩
theorem in_neq {a b : Int} {K : AV → Prop} (h : K (BB (a != b))) : wInt .i64 .neq (I64 a) (I64 b) K := ⟨⟨rfl, rfl⟩, h⟩
theorem in_lss {a b : Int} {K : AV → Prop} (h : K (BB (a < b))) : wInt .i64 .lss (I64 a) (I64 b) K := ⟨⟨rfl, rfl⟩, h⟩
theorem in_leq {a b : Int} {K : AV → Prop} (h : K (BB (a ≤ b))) : wInt .i64 .leq (I64 a) (I64 b) K := ⟨⟨rfl, rfl⟩, h⟩
theorem in_gtr {a b : Int} {K : AV → Prop} (h : K (BB (a > b))) : wInt .i64 .gtr (I64 a) (I64 b) K := ⟨⟨rfl, rfl⟩, h⟩
theorem in_geq {a b : Int} {K : AV → Prop} (h : K (BB (a ≥ b))) : wInt .i64 .geq (I64 a) (I64 b) K := ⟨⟨rfl, rfl⟩, h⟩
theorem in_add {a b : Int} {K : AV → Prop} (h1 : -(2 ^ 63) ≤ a + b) (h2 : a + b < 2 ^ 63) (h : K (I64 (a + b))) : wInt .i64 .add (I64 a) (I64 b) K := ⟨⟨rfl, rfl⟩, wAri_fit h1 h2 h⟩
theorem in_sub {a b : Int} {K : AV → Prop} (h1 : -(2 ^ 63) ≤ a - b) (h2 : a - b < 2 ^ 63) (h : K (I64 (a - b))) : wInt .i64 .sub (I64 a) (I64 b) K := ⟨⟨rfl, rfl⟩, wAri_fit h1 h2 h⟩
theorem bd_of {z ps cs : _} {K : AV → Prop} (hf : fillS z ps = some cs) (h : K (.agg cs)) : wBuild z ps K := by
  simp only [wBuild, hf, wO]
  exact h
section
variable {bs : List (List AV)} {id : Nat} {l : Src}
theorem loc_get (k : Nat) (m r : List (List AV)) (j : Nat) : (ST bs id l k ++ (m ++ r))[bs.length + m.length + j]? = r[j]? := by
  have := get_app (ST bs id l k ++ m) r j
  simpa [ST_len] using this
theorem loc_get0 (k : Nat) (m r : List (List AV)) : (ST bs id l k ++ (m ++ r))[bs.length + m.length]? = r[0]? := loc_get k m r 0
theorem loc_set (k : Nat) (m r : List (List AV)) (j : Nat) (v : List AV) : (ST bs id l k ++ (m ++ r)).set (bs.length + m.length + j) v = ST bs id l k ++ (m ++ r.set j v) := by
  have := set_app (ST bs id l k ++ m) r j v
  simpa [ST_len] using this
theorem loc_set0 (k : Nat) (m r : List (List AV)) (v : List AV) : (ST bs id l k ++ (m ++ r)).set (bs.length + m.length) v = ST bs id l k ++ (m ++ r.set 0 v) := loc_set k m r 0 v
theorem locB_push {m : List (List AV)} (hm : LocB bs m) {r : List (List AV)} (hr : ∀ b ∈ r, idsLtL (bs.length + m.length + r.length) b = true) : LocB bs (m ++ r) := by
  intro b hb
  rcases aLs0016.1 hb with h | h
  · exact idsLtL_mono (by simp) b (hm b h)
  · have := hr b h
    simpa [aLs0059] using this
def NRepO (v : Nd) (x : AV) : Prop := match v with
  | .mk k s cs o => ∃ a, x = .agg [I64 k, SS s, a, I64 o] ∧ RowsO a (rowsN cs)
theorem NRepO.closed {v : Nd} {x : AV} (h : NRepO v x) : ∃ x', close [] 0 0 x = some x' ∧ NRep v x' ∧ close [] 0 0 x' = some x' := by
  obtain ⟨k, s, cs, o⟩ := v
  obtain ⟨a, rfl, ha⟩ := h
  obtain ⟨a', h1, h2⟩ := ha.closed [] 0
  exact ⟨.agg [I64 k, SS s, a', I64 o], by simp [h1], ⟨a', rfl, h2⟩, by simp [h2.close]⟩
variable {R : Nat → Option (List PV)}
def NdB (B g : Nat) (n : Nd) : Prop := okNd n ∧ fewN n ∧ nsize n ≤ B ∧ grow n ≤ g
theorem NdB.leaf {B g : Nat} {k o : Int} {s : List UInt8} (hs : s.length < 2 ^ 60) (hB : 0 < B) : NdB B g (.mk k s [] o) := by
  simp [NdB, okNd, okNds, fewN, fewNs, nsize, nsizeL, grow, growL, hs]
  omega
theorem strRow_get {l : List (List UInt8)} : strRow l = [.list (strRows l)] := rfl
theorem ld_glob {g : Nat} {T : List (List UInt8)} (hG : (env R).G g = some (strRow T)) {s : Sto} {K : AV → Prop} (h : K (.pv (.list (strRows T)))) : wLd (env R) s none (.gptr g 0) K := by
  simp [wLd, hG, wO, wPart, strRow_get]
  exact h
theorem eq_strRows : ∀ l : List (List UInt8), eqPLL (strRows l) (strRows l) = true
  | [] => by simp [strRows, eqPLL]
  | s :: l => by
    have := eq_strRows l
    simp only [strRows, aLs0018, eqPLL, eqPL, eqP, eqV_str, aLs0097, aLs0051] at this ⊢
    exact this
theorem wSt_and {L : Lim} {s : Sto} {k : Nat} {a x : AV} {K : Sto → Prop} {C : Prop} (hC : C) (h : wSt L s k a x K) : wSt L s k a x fun s => C ∧ K s := wSt_and2 (fun _ h => ⟨hC, h⟩) h
theorem ld_str {s : Sto} {w : List UInt8} {K : AV → Prop} (h : K (SS w)) : wLd (env R) s none (.eptr [.sc (.string ⟨w.toArray⟩)] 0) K := by
  simpa [wLd, wPart, wO] using h
theorem idx_str {T : List (List UInt8)} {r : Int} {w : List UInt8} (h0 : 0 ≤ r) (hw : T[r.toNat]? = some w) {s : Sto} {K : AV → Prop} (h : K (.eptr [.sc (.string ⟨w.toArray⟩)] 0)) : wIdx s 1 (.pv (.list (strRows T))) (I64 r) K :=
  wIdx_rows (.list _) (row := [.sc (.string ⟨w.toArray⟩)]) h0 (by simp [strRows, hw]) rfl (by omega) h
theorem eqA_strRows (T : List (List UInt8)) : eqA (.pv (.list (strRows T))) (.pv (.list (strRows T))) = true := by simp [eqA, eqP, eq_strRows]
theorem eqA_eptr (w : List UInt8) : eqA (.eptr [.sc (.string ⟨w.toArray⟩)] 0) (.eptr [.sc (.string ⟨w.toArray⟩)] 0) = true := by simp [eqA, eqPL, eqP, eqV_str]
theorem eqA_SS (w : List UInt8) : eqA (SS w) (SS w) = true := by simp [eqA, eqP, eqV_str]
theorem eqA_I (n : Int) : eqA (I64 n) (I64 n) = true := by simp [eqA, eqP, eqV_int]
end
def strT : List (List UInt8) := [[], [97, 32, 98], [113, 117, 111, 116, 101, 32, 34, 32, 97, 110, 100, 32, 92], [126], [40, 110, 111, 116, 32, 97, 32, 108, 105, 115, 116, 41], [59, 32, 110, 111, 32, 99, 111, 109, 109, 101, 110, 116]]
def Short (T : List (List UInt8)) : Prop := (∀ s ∈ T, s.length < 2 ^ 60) ∧ 0 < T.length ∧ T.length < 2 ^ 60
theorem ApdN.eqA {lo : Nat} {ts : List (Nat × Nat)} {k : Nat} {a : AV} {es : List Nd} (h : Apd lo ts k a (rowsN es)) : Tel.eqA a a = true := by
  rcases h with rfl | ⟨t, rfl, _⟩
  · simp [Tel.eqA, eqPLL_rowsN]
  · simp [Tel.eqA, eqPLL_rowsN]
section
variable {R : Nat → Option (List PV)}
theorem letter0_spec (n : Int) : PureC (env0 R) 112 [BY n] fun r => r = BB (isLet n) := by
  refine e5112 rfl (p5112_0 ?_)
  by_cases h1 : 97 ≤ n <;> by_cases h2 : n ≤ 122 <;> by_cases h3 : 65 ≤ n <;> by_cases h4 : n ≤ 90 <;> simp [QP, QI, isLet, h1, h2, h3, h4]
theorem digit0_spec (n : Int) : PureC (env0 R) 113 [BY n] fun r => r = BB (isDig n) := by
  refine e5113 rfl (p5113_0 ?_)
  by_cases h1 : 48 ≤ n <;> by_cases h2 : n ≤ 57 <;> simp [QP, QI, isDig, h1, h2]
theorem wordByte0_spec (n : Int) : PureC (env0 R) 92 [BY n] fun r => r = BB (isWB n) := by
  refine e592 rfl (p592_0 ?_)
  refine wCall_pure (letter0_spec n) ?_
  rintro v rfl
  cases h1 : isLet n with
  | true => simp [QP, QI, isWB, h1]
  | false =>
    simp
    refine wCall_pure (digit0_spec n) ?_
    rintro v rfl
    cases h2 : isDig n with
    | true => simp [QP, QI, isWB, h2]
    | false => cases h3 : (n == 95) <;> cases h4 : (n == 45) <;> simp [-beq_iff_eq, -beq_eq_false_iff_ne, QP, QI, isWB, h1, h2, h3, h4]
end
theorem wB_eq (c : UInt8) : wB c = isWB c.toNat := by
  have b1 : ∀ a b : Nat, Nat.ble a b = decide (a ≤ b) := fun a b => by
    rw [aLs0039]; simp
  have b2 : ∀ a b : Nat, Nat.beq a b = decide (a = b) := fun a b => by
    rw [aLs0039]; simp
  rw [aLs0039]
  simp only [wB, isWB, isLet, isDig, b1, b2, aLs0029, aLs0002, aLs0079, aLs0028]
  omega
def Opn (ts : List (Nat × TypeId)) : Nat → List (Nat × List (List PV)) → List AV → Prop
  | _, [], cs => cs = []
  | m, (o, rows) :: st, cs => ∃ cs' a m', cs = cs' ++ [I64 (bif st.isEmpty then 0 else 3), SS [], a, I64 o] ∧ (rows.all fun r => r.length == 4) = true ∧
      ((a = .capped [] ∧ rows = [] ∧ m' = m) ∨ (a = .own m' rows ∧ m' < m ∧ ts[m']? = some (rows.length, 55))) ∧ Opn ts m' st cs'
theorem Opn.len {ts : List (Nat × TypeId)} : ∀ {st : List (Nat × List (List PV))} {m : Nat} {cs : List AV}, Opn ts m st cs → cs.length = 4 * st.length
  | [], m, cs, h => by simp only [Opn] at h; simp [h]
  | (o, rows) :: st, m, cs, h => by
    obtain ⟨cs', a, m', rfl, _, _, h⟩ := h
    have := h.len
    simp; omega
theorem Opn.ids {ts : List (Nat × TypeId)} (n : Nat) : ∀ {st : List (Nat × List (List PV))} {m : Nat} {cs : List AV}, Opn ts m st cs → idsLtL n cs = true
  | [], m, cs, h => by simp only [Opn] at h; simp [h, idsLtL]
  | (o, rows) :: st, m, cs, h => by
    obtain ⟨cs', a, m', rfl, _, ha, h⟩ := h
    have h1 := h.ids n
    have h2 : ∀ x y : List AV, idsLtL n x = true → idsLtL n y = true → idsLtL n (x ++ y) = true := fun x => by
      induction x with
      | nil => intro y _ h; exact h
      | cons c x ih =>
        intro y a b
        simp only [idsLtL, aLs0037, aLs0002] at a ⊢
        exact ⟨a.1, ih y a.2 b⟩
    refine h2 _ _ h1 ?_
    rcases ha with ⟨rfl, _⟩ | ⟨rfl, _⟩ <;> simp [idsLtL, idsLt]
theorem Opn.mono {ts : List (Nat × TypeId)} {m n : Nat} (hmn : m ≤ n) : ∀ {st : List (Nat × List (List PV))} {cs : List AV}, Opn ts m st cs → Opn ts n st cs
  | [], cs, h => h
  | (o, rows) :: st, cs, h => by
    obtain ⟨cs', a, m', e, hr, ha, h⟩ := h
    rcases ha with ⟨h1, h2, rfl⟩ | ⟨h1, h2, h3⟩
    · exact ⟨cs', a, n, e, hr, .inl ⟨h1, h2, rfl⟩, h.mono hmn⟩
    · exact ⟨cs', a, m', e, hr, .inr ⟨h1, by omega, h3⟩, h⟩
theorem Opn.set {ts : List (Nat × TypeId)} {t : Nat} {x : Nat × TypeId} : ∀ {st : List (Nat × List (List PV))} {m : Nat} {cs : List AV}, m ≤ t → Opn ts m st cs → Opn (ts.set t x) m st cs
  | [], m, cs, _, h => h
  | (o, rows) :: st, m, cs, hm, h => by
    obtain ⟨cs', a, m', e, hr, ha, h⟩ := h
    rcases ha with ⟨h1, h2, rfl⟩ | ⟨h1, h2, h3⟩
    · exact ⟨cs', a, m', e, hr, .inl ⟨h1, h2, rfl⟩, h.set hm⟩
    · exact ⟨cs', a, m', e, hr, .inr ⟨h1, h2, by rw [aLs0025 (by omega)]; exact h3⟩, h.set (by omega)⟩
theorem Opn.app {ts x : List (Nat × TypeId)} : ∀ {st : List (Nat × List (List PV))} {m : Nat} {cs : List AV}, Opn ts m st cs → Opn (ts ++ x) m st cs
  | [], m, cs, h => h
  | (o, rows) :: st, m, cs, h => by
    obtain ⟨cs', a, m', e, hr, ha, h⟩ := h
    rcases ha with ⟨h1, h2, rfl⟩ | ⟨h1, h2, h3⟩
    · exact ⟨cs', a, m', e, hr, .inl ⟨h1, h2, rfl⟩, h.app⟩
    · exact ⟨cs', a, m', e, hr, .inr ⟨h1, h2, by rw [aLs0012 (aLs0014.1 h3).1]; exact h3⟩, h.app⟩
def PS (l : List UInt8) (p : Nat) (st : List (Nat × List (List PV))) (s : Sto) : Prop :=
  ∃ id cs gar, s.bs[1]? = some [SS l, I64 p, .ref id 0 st.length 4] ∧ id ≠ 1 ∧ s.bs[id]? = some (cs ++ gar) ∧ Opn s.ts s.ts.length st cs ∧ OkS s
theorem idsLtL_app {n : Nat} : ∀ {x y : List AV}, idsLtL n x = true → idsLtL n y = true → idsLtL n (x ++ y) = true
  | [], _, _, h => h
  | c :: x, y, a, b => by
    simp only [idsLtL, aLs0037, aLs0002] at a ⊢
    exact ⟨a.1, idsLtL_app a.2 b⟩
theorem idsLtL_right {n : Nat} : ∀ {x y : List AV}, idsLtL n (x ++ y) = true → idsLtL n y = true
  | [], _, h => h
  | c :: x, y, a => by
    simp only [idsLtL, aLs0037, aLs0002] at a
    exact idsLtL_right a.2
theorem PS.alive1 {l : List UInt8} {p : Nat} {st : List (Nat × List (List PV))} {s : Sto} (h : PS l p st s) : alive s 1 = true := by
  obtain ⟨id, cs, gar, h1, _⟩ := h
  simp only [alive, h1]
section
variable {R : Nat → Option (List PV)}
theorem nadd_spec {l : List UInt8} {p o : Nat} {rows : List (List PV)} {st : List (Nat × List (List PV))} {s : Sto} (h : PS l p ((o, rows) :: st) s) {k : Int} {w : List UInt8} {a0 : AV} {rs : List (List PV)} {q : Nat} (ha0 : RowsO a0 rs) (hl : rows.length < 2 ^ 20) (hsl : st.length < 2 ^ 20) {L : Lim} (hro : L.ro = 0) (hrt : L.rt = 0) :
    ∃ v s', (PS l p ((o, rows ++ [nodeR k w rs q]) :: st) s' ∧ s'.bs.length = s.bs.length) ∧ CallE (env0 R) L 110 [.ptr 1 0, .agg [I64 k, SS w, a0, I64 q]] s v s' := by
  obtain ⟨id, cs, gar, h1, hne, hid, hop, hok⟩ := h
  refine m5110 (by simp [noIdL, noId]) (p5110_0 ?_)
  obtain ⟨cs', a, m', rfl, hrw, ha, hop'⟩ := hop
  have hcl := hop'.len
  have hlt := (aLs0014.1 hid).1
  have hlt1 := (aLs0014.1 h1).1
  have hA : RowsO a rows := by
    rcases ha with ⟨rfl, rfl, _⟩ | ⟨rfl, _⟩
    · exact .inl (.capped _)
    · exact .inr ⟨_, rfl⟩
  refine ⟨by simp [cellsOf, okI, okS, ha0.ok], ?_⟩
  simp only [ceA, wNew]
  generalize hX : [I64 k, SS w, a0, I64 q] = X
  have g1 : (s.bs ++ [X])[1]? = some [SS l, I64 p, .ref id 0 (st.length + 1) 4] := by rw [aLs0012 hlt1]; exact h1
  have gi : (s.bs ++ [X])[id]? = some ((cs' ++ [I64 (bif st.isEmpty then 0 else 3), SS [], a, I64 o]) ++ gar) := by rw [aLs0012 hlt]; exact hid
  have al1 : alive ⟨s.bs ++ [X], s.ts⟩ 1 = true := by simp only [alive, g1]
  have ali : ∀ ts, alive ⟨s.bs ++ [X], ts⟩ id = true := fun ts => by
    simp only [alive, gi]
    cases cs' <;> simp
  refine ⟨al1, al1, ?_⟩
  simp only [wLd, g1, wO, wPart, xL, xM, xF, xG]
  refine ⟨al1, al1, ?_⟩
  simp only [wLd, g1, wO, wPart, xL, xM, xF, xG]
  simp only [aLs0031, aLs0027, aLs0017]
  have e1 : lenA ⟨s.bs ++ [X], s.ts⟩ (.ref id 0 (st.length + 1) 4) = some (st.length + 1) := leR _ (ali _)
  simp only [wLen, e1, wO]
  refine in_sub (by omega) (by omega) ?_
  have e2 : (((st.length + 1 : Nat) : Int) - 1) = (st.length : Nat) := by omega
  rw [e2]
  refine ⟨⟨by omega, by omega, rfl, ali _⟩, ?_⟩
  refine ⟨ali _, ali _, ?_⟩
  have e3 : 0 + (st.length : Int).toNat * 4 = cs'.length := by simp [hcl]; omega
  rw [e3]
  have c1 : ((cs' ++ [I64 (bif st.isEmpty then 0 else 3), SS [], a, I64 o]) ++ gar)[cs'.length + 2]? = some a := by
    rw [aLs0023, get_app]; rfl
  simp only [wLd, gi, wO, wPart, c1, get_app0, aLs0017, xL, xM, xF, xG]
  subst hX
  refine ⟨by simp, ?_⟩
  simp only [aLs0031, aLs0040, aLs0019 (show [I64 k, SS w, a0, I64 q].length ≤ 4 by simp)]
  simp only [hA.lenA, wLen, wO]
  refine ⟨by simp, ?_⟩
  have ez : fillS (repl 1 [I64 0, SS [], .capped [], I64 0]) [(0, 4, .agg [I64 0, SS [], .capped [], I64 0])] = some [I64 0, SS [], .capped [], I64 0] := by rfl
  rw [ez]
  have et : toPVs [I64 0, SS [], .capped [], I64 0] = some [.sc (.int .i64 0), .sc (.string ⟨[].toArray⟩), .list [], .sc (.int .i64 0)] := rfl
  simp only [wO, aLs0063, aLs0009, et]
  refine ⟨by simp, ?_⟩
  refine ⟨⟨_, rfl, rfl, rfl⟩, by simp [natOfA, hA.rowsOf], ?_⟩
  have ex : toPVs (cellsOf (.agg [I64 k, SS w, a0, I64 q])) = some (nodeR k w rs q) := by
    simp only [ceA, toPVs, tpP, ha0.toPV]; rfl
  refine ⟨by simp [ceA, okI, okS, ha0.ok], ?_⟩
  simp only [ex, wO]
  refine ⟨rfl, ?_⟩
  have hrow' : ((rows ++ [nodeR k w rs q]).all fun r => r.length == 4) = true := by
    rw [List.all_append, hrw]; rfl
  have fin : ∀ (a' : AV) (ts' : List (Nat × TypeId)) (m2 : Nat), a' = .own m2 (rows ++ [nodeR k w rs q]) → m2 < ts'.length → ts'[m2]? = some ((rows ++ [nodeR k w rs q]).length, 55) → Opn ts' m2 st cs' →
      wNil ⟨s.bs ++ [[I64 k, SS w, a0, I64 q]], ts'⟩ (.ptr id cs'.length) fun a25 => wFad ⟨s.bs ++ [[I64 k, SS w, a0, I64 q]], ts'⟩ a25 2 fun a26 =>
      wSt (LFE (env0 R) 110 0 L.ro L.rt) ⟨s.bs ++ [[I64 k, SS w, a0, I64 q]], ts'⟩ 1 a26 a' fun s1 => QM (L.rr 110) s.bs.length (fun _ s' => PS l p ((o, rows ++ [nodeR k w rs q]) :: st) s' ∧ s'.bs.length = s.bs.length) (.tuple []) s1 := by
    rintro a' ts' m2 rfl hm2 ht2 hop2
    refine ⟨ali _, ali _, ?_⟩
    simp only [wSt, gi, wO, ceO]
    refine ⟨⟨rfl, by simp; omega, by simp [LFE, hro], rfl, .inl (by simp [LFE]), by omega⟩, ?_⟩
    have es : setCells ((cs' ++ [I64 (bif st.isEmpty then 0 else 3), SS [], a, I64 o]) ++ gar) (cs'.length + 2) [.own m2 (rows ++ [nodeR k w rs q])] = (cs' ++ [I64 (bif st.isEmpty then 0 else 3), SS [], .own m2 (rows ++ [nodeR k w rs q]), I64 o]) ++ gar := by
      simp only [setCells]
      rw [aLs0023, set_app, aLs0023]
      rfl
    rw [es]
    have hgar : idsLtL s.bs.length gar = true := idsLtL_right (hok _ (aLs0013 hid))
    have hnew : idsLtL s.bs.length ((cs' ++ [I64 (bif st.isEmpty then 0 else 3), SS [], .own m2 (rows ++ [nodeR k w rs q]), I64 o]) ++ gar) = true :=
      idsLtL_app (idsLtL_app (hop2.ids _) (by simp [idsLtL, idsLt])) hgar
    have htk : ((s.bs ++ [[I64 k, SS w, a0, I64 q]]).set id ((cs' ++ [I64 (bif st.isEmpty then 0 else 3), SS [], .own m2 (rows ++ [nodeR k w rs q]), I64 o]) ++ gar)).take s.bs.length = s.bs.set id ((cs' ++ [I64 (bif st.isEmpty then 0 else 3), SS [], .own m2 (rows ++ [nodeR k w rs q]), I64 o]) ++ gar) := by
      rw [List.set_append_left _ _ hlt, aLs0111 (by simp), aLs0019 (by simp)]
    refine QM_tuple (ds := []) ?_ (by simp [closeL]) ?_
    · simp only [htk]
      rw [aLs0015]
      intro x hx
      rcases aLs0053 hx with h | h
      · exact hok x h
      · rw [h]; exact hnew
    · simp only [htk]
      refine ⟨⟨id, _, gar, ?_, hne, aLs0070 hlt, ⟨cs', _, m2, rfl, hrow', .inr ⟨rfl, hm2, ht2⟩, hop2⟩, ?_⟩, by simp⟩
      · rw [aLs0025 hne]; exact h1
      · intro x hx
        simp only [aLs0078]
        rcases aLs0053 hx with h | h
        · exact hok x h
        · rw [h]; exact hnew
  rcases ha with ⟨rfl, rfl, rfl⟩ | ⟨rfl, hm, ht⟩
  · refine ⟨⟨by simp, by simp, rfl⟩, ?_⟩
    exact fin _ _ s.ts.length rfl (by simp) (by simp) (hop'.mono (by simp)).app
  · have hlt' := (aLs0014.1 ht).1
    refine ⟨⟨by omega, by omega, ht, by simp [LFE, hrt], hrw⟩, ?_⟩
    exact fin _ _ m' rfl (by simpa using hlt') (by simp [hlt']) (hop'.set (aLs0005 _))
end
theorem quick_sub {P : Program} {t : TypeId} (ht : P.underlying t = some .string) {l : List UInt8} {a b : Nat} (hab : a ≤ b) (hb : b ≤ l.length) : quick P (Instr.sliceAt t (.string ⟨l.toArray⟩) (some (.int .i64 a)) (some (.int .i64 b)) none) = some (.string ⟨((l.drop a).take (b - a)).toArray⟩) := by
  unfold Instr.sliceAt
  refine quick_bind (quick_und ht) ?_
  simp only
  unfold Instr.slice
  refine quick_bind (quick_und ht) ?_
  have hs : ((b : Nat) : Int) ≤ ((⟨l.toArray⟩ : ByteArray).size : Int) := by
    simp [ByteArray.size]
    omega
  have h0 : (0 : Int) ≤ (a : Nat) := by omega
  have hb0 : (0 : Int) ≤ (b : Nat) := by omega
  have h1 : ((a : Nat) : Int) ≤ (b : Nat) := by omega
  simp only [Instr.sliceBounds, Instr.sliceBound, asIntOf, hs, h0, hb0, h1, Int.toNat_natCast, Option.isSome_none, aLs0021, aLs0055, pure_bind, aLs0071, true_and, aLs0045]
  have e : (⟨l.toArray⟩ : ByteArray).extract a b = ⟨((l.drop a).take (b - a)).toArray⟩ := by
    rw [ByteArray.ext_iff]
    simp [ByteArray.size, List.take_drop]
  show quick P (pure (Value.string ((⟨l.toArray⟩ : ByteArray).extract a b))) = _
  rw [e]
  rfl
theorem wAnyT_sub {E : Env} {L : Lim} {s : Sto} {lk : Lk} {o : Oper} {K : AV → Sto → Prop} {t : TypeId} {x lo hi : Operand} {l : List UInt8} {a b : Nat} (ho : o.op = .slice t x (some lo) (some hi) none) (ht : E.P.underlying t = some .string) (hx : evL lk x = some (SS l)) (hlo : evL lk lo = some (I64 a)) (hhi : evL lk hi = some (I64 b))
    (hab : a ≤ b) (hb : b ≤ l.length) (h : K (SS ((l.drop a).take (b - a))) s) : wAnyT E L s lk o K := by
  refine ⟨_, s, fun ρ hA => ?_, h⟩
  have ex := evL_eq hA hx
  have elo := evL_eq hA hlo
  have ehi := evL_eq hA hhi
  have h1 : allConc ρ o.op.operands.toList = true := by
    have e : o.op.operands.toList = [x, lo, hi] := by rw [ho]; rfl
    rw [e]
    simp [allConc, ex, elo, ehi, conc]
  have h2 : quickOp E ρ o = some (SS ((l.drop a).take (b - a))) := by
    have : quick E.P (execOp (fun z => (conc (evalO ρ z)).getD undef) o) = some (.value (.string ⟨((l.drop a).take (b - a)).toArray⟩)) := by
      unfold execOp
      rw [ho]
      simp only [ex, elo, ehi, conc, aLs0069, aLs0065, Option.map_none]
      exact quick_bind (quick_sub ht hab hb) rfl
    simp only [quickOp, h1, aLs0045, this]
    rfl
  have h3 : sliceA E.P s t (evalO ρ x) (some (evalO ρ lo)) (some (evalO ρ hi)) none = none := by
    unfold sliceA
    rw [ht]
  unfold opA
  rw [ho]
  simp only [aLs0065, Option.map_none, h3, h2]
section
variable {R : Nat → Option (List PV)} {l : List UInt8} {p : Nat} {st : List (Nat × List (List PV))} {s : Sto}
theorem PS.nil (h : PS l p st s) {K : AV → Prop} (hK : K (.ptr 1 0)) : wNil s (.ptr 1 0) K := ⟨h.alive1, hK⟩
theorem PS.fad (h : PS l p st s) {d : Nat} {K : AV → Prop} (hK : K (.ptr 1 d)) : wFad s (.ptr 1 0) d K := ⟨h.alive1, by simpa using hK⟩
theorem PS.src (h : PS l p st s) {K : AV → Prop} (hK : K (SS l)) : wLd (env0 R) s none (.ptr 1 0) K := by
  obtain ⟨id, cs, gar, h1, _⟩ := h
  simpa [wLd, h1, wO, wPart] using hK
theorem PS.pos (h : PS l p st s) {K : AV → Prop} (hK : K (I64 p)) : wLd (env0 R) s none (.ptr 1 1) K := by
  obtain ⟨id, cs, gar, h1, _⟩ := h
  simpa [wLd, h1, wO, wPart] using hK
theorem PS.setpos (h : PS l p st s) {p' : Nat} {L : Lim} (hro : L.ro = 0) {K : Sto → Prop} (hK : ∀ s', PS l p' st s' → s'.bs.length = s.bs.length → K s') : wSt L s 1 (.ptr 1 1) (I64 p') K := by
  obtain ⟨id, cs, gar, h1, hne, hid, hop, hok⟩ := h
  have hlt := (aLs0014.1 h1).1
  simp only [wSt, h1, wO]
  refine ⟨⟨rfl, by simp [cellsOf], by omega, rfl, .inr (by simp [ceI, nbL, nbN, nbP]), by omega⟩, ?_⟩
  have e : setCells [SS l, I64 p, .ref id 0 st.length 4] 1 (cellsOf (I64 p')) = [SS l, I64 p', .ref id 0 st.length 4] := by simp [ceI, setCells]
  rw [e]
  refine hK _ ⟨id, cs, gar, aLs0070 hlt, hne, by rw [aLs0025 (aLs0030 hne)]; exact hid, hop, ?_⟩ (by simp)
  intro x hx
  simp only [aLs0078]
  rcases aLs0053 hx with h | h
  · exact hok x h
  · rw [h]
    have := hok _ (aLs0013 h1)
    simpa [idsLtL, idsLt] using this
theorem tw_drop {q : Nat} {c : UInt8} (hc : l[q]? = some c) : (l.drop q).takeWhile wB = if wB c = true then c :: (l.drop (q + 1)).takeWhile wB else [] := by
  rw [drop_cons hc, aLs0100]
theorem word_loop (hl : l.length < 2 ^ 40) {ro rt : Nat} (hro : ro = 0) {p0 : Nat} {QR : AV → Sto → Prop} : ∀ (j q : Nat) (s : Sto), q + j = l.length → PS l q st s →
    (∀ s', PS l (q + ((l.drop q).takeWhile wB).length) st s' → s'.bs.length = s.bs.length → P593_3 R 0 ro rt (.ptr 1 0) (I64 p0) s' QR) → P593_1 R 0 ro rt (.ptr 1 0) (I64 p0) s QR := by
  intro j
  induction j with
  | zero =>
    intro q s hi h hK
    refine p593_1 (h.nil (h.fad (h.pos (h.nil (h.fad (h.src ?_))))))
    simp only [wSlen]
    refine in_lss ?_
    have h1 : ¬ ((q : Int) < ((⟨l.toArray⟩ : ByteArray).data.toList.length : Nat)) := by simp; omega
    rw [aLs0035 h1]
    refine gk_f (by simp) (gk_f (by simp) (gk_f (by simp) (gk_f (by simp) (gk_f (by simp) (gk_f (by simp) (gk_f (by simp) (gk_f (by simp) (gk_f (by simp) (gk_f (by simp) ?_)))))))))
    refine pk (co_f ?_)
    have h2 : l.drop q = [] := aLs0024 (by omega)
    have := hK s (by simpa [h2] using h) rfl
    exact this
  | succ j ih =>
    intro q s hi h hK
    refine p593_1 (h.nil (h.fad (h.pos (h.nil (h.fad (h.src ?_))))))
    simp only [wSlen]
    refine in_lss ?_
    have h1 : ((q : Int) < ((⟨l.toArray⟩ : ByteArray).data.toList.length : Nat)) := by simp; omega
    rw [aLs0033 h1]
    obtain ⟨c, hc⟩ : ∃ c, l[q]? = some c := ⟨_, aLs0008 (by omega)⟩
    refine gk_t (gk_t (h.nil (gk_t (h.fad (gk_t (h.src (gk_t (gk_t (h.nil (gk_t (h.fad (gk_t (h.pos (gk_t ?_))))))))))))))
    refine ⟨by omega, c, by simpa using hc, ?_⟩
    refine gk_t (wCall_pure (wordByte0_spec c.toNat) ?_)
    rintro v rfl
    rw [← wB_eq]
    refine pk ?_
    rw [tw_drop hc] at hK
    cases hw : wB c with
    | false =>
      refine co_f ?_
      exact hK s (by simpa [hw] using h) rfl
    | true =>
      refine co_t (p593_2 (h.nil (h.fad (h.pos (in_add (by omega) (by omega) (h.nil (h.fad ?_)))))))
      have e : ((q : Int) + 1) = ((q + 1 : Nat) : Int) := by omega
      rw [e]
      refine h.setpos (by simp [LFE, hro]) fun s' h' hs => ?_
      refine ih (q + 1) s' (by omega) h' fun s2 h2 hs2 => hK s2 ?_ (by omega)
      rw [if_pos hw]
      have e2 : q + (c :: (l.drop (q + 1)).takeWhile wB).length = q + 1 + ((l.drop (q + 1)).takeWhile wB).length := by simp; omega
      rw [e2]
      exact h2
theorem word0_spec {o : Nat} {rows : List (List PV)} (h : PS l p ((o, rows) :: st) s) (hl : l.length < 2 ^ 40) (hp : p ≤ l.length) (hw : ((l.drop p).takeWhile wB).length ≤ 24) (hr : rows.length < 2 ^ 20) (hsl : st.length < 2 ^ 20) {L : Lim} (hro : L.ro = 0) (hrt : L.rt = 0) :
    ∃ v s', PS l (p + ((l.drop p).takeWhile wB).length) ((o, rows ++ [nodeR 1 ((l.drop p).takeWhile wB) [] p]) :: st) s' ∧ CallE (env0 R) L 93 [.ptr 1 0] s v s' := by
  refine m593 (by simp [noIdL, noId]) (p593_0 (h.nil (h.fad (h.pos ?_))))
  have hle : p + ((l.drop p).takeWhile wB).length ≤ l.length := by
    have := (aLs0112 wB (l := l.drop p)).length_le
    simp at this; omega
  refine word_loop (R := R) hl hro (l.length - p) p s (by omega) h fun s' h' hs => ?_
  refine p593_3 (h'.nil (h'.fad (h'.pos (in_sub (by omega) (by omega) (in_gtr ?_)))))
  have h1 : ¬ (((p + ((l.drop p).takeWhile wB).length : Nat) : Int) - (p : Int) > 24) := by omega
  rw [aLs0035 h1]
  refine co_f (p593_4 (h'.nil (h'.fad (h'.src (h'.nil (h'.fad (h'.pos ?_)))))))
  refine wAnyT_sub (t := 9) (x := .tmp 49) (lo := .tmp 50) (hi := .tmp 54) (by kernel_rfl) (by kernel_rfl) rfl rfl rfl (by omega) hle ?_
  have e1 : (l.drop p).take (p + ((l.drop p).takeWhile wB).length - p) = (l.drop p).takeWhile wB := by
    rw [Nat.add_sub_cancel_left]
    exact (List.prefix_iff_eq_take.1 (aLs0112 wB)).symm
  rw [e1]
  refine bd_of (cs := [I64 1, SS ((l.drop p).takeWhile wB), .capped [], I64 p]) rfl ?_
  obtain ⟨v, s2, ⟨h2, hs2⟩, hc⟩ := nadd_spec (R := R) h' (k := 1) (w := (l.drop p).takeWhile wB) (a0 := .capped []) (q := p) (.inl (.capped [])) hr hsl (L := LFE (env0 R) 93 0 L.ro L.rt) hro hrt
  refine ⟨v, s2, hc, ?_⟩
  obtain ⟨id, cs, gar, g1, g2, g3, g4, hok⟩ := h2
  have et : s2.bs.take s.bs.length = s2.bs := aLs0019 (by omega)
  refine QM_tuple (ds := []) ?_ (by simp [closeL]) ?_
  · rw [et, aLs0015]
    intro x hx
    have := hok x hx
    rwa [show s2.bs.length = s.bs.length by omega] at this
  · rw [et]
    exact ⟨id, cs, gar, g1, g2, g3, g4, hok⟩
end
theorem eqA_ref (a b c d : Nat) : eqA (.ref a b c d) (.ref a b c d) = true := by simp [eqA]
theorem eqA_ptr (a b : Nat) : eqA (.ptr a b) (.ptr a b) = true := by simp [eqA]
section
variable {R : Nat → Option (List PV)} {l : List UInt8} {p : Nat} {st : List (Nat × List (List PV))} {s : Sto}
theorem par_next (h : PS l p st s) (hp : p < 2 ^ 40) {n0 ro rt : Nat} (hro : ro = 0) {QR : AV → Sto → Prop} (hK : ∀ s', PS l (p + 1) st s' → QR (.tuple []) s') : P590_1 R n0 ro rt (.ptr 1 0) s QR := by
  refine p590_1 (h.nil (h.fad (h.pos (in_add (by omega) (by omega) (h.nil (h.fad ?_))))))
  have e : ((p : Int) + 1) = ((p + 1 : Nat) : Int) := by omega
  rw [e]
  exact h.setpos (by simp [LFE, hro]) fun s' h' _ => hK s' h'
theorem open_spec (h : PS l p st s) (hp : p < 2 ^ 40) (hc : l[p]? = some 40) (hs : st.length ≤ 40) (hne0 : st ≠ []) {L : Lim} (hn0 : L.n0 = 0) (hro : L.ro = 0) : ∃ v s', PS l (p + 1) ((p, []) :: st) s' ∧ CallE (env0 R) L 90 [.ptr 1 0] s v s' := by
  refine m590 ?_
  have hS := h
  obtain ⟨id, cs, gar, h1, hne, hid, hop, hok⟩ := h
  have hcl := hop.len
  have hlt := (aLs0014.1 hid).1
  have hlt1 := (aLs0014.1 h1).1
  have hpos : 0 < st.length := aLs0072.2 hne0
  have ld2 : ∀ {K : AV → Prop}, K (.ref id 0 st.length 4) → wLd (env0 R) s none (.ptr 1 2) K := fun hK => by
    simpa [wLd, h1, wO, wPart] using hK
  obtain ⟨c0, ct, hct⟩ : ∃ c0 ct, cs ++ gar = c0 :: ct := by
    cases hcg : cs ++ gar with
    | nil =>
      have := congrArg List.length hcg
      simp only [aLs0011, aLs0020] at this
      omega
    | cons c0 ct => exact ⟨c0, ct, rfl⟩
  have ali : alive s id = true := by simp only [alive, hid, hct]
  have len2 : ∀ {K : AV → Prop}, K (I64 st.length) → wLen s (.ref id 0 st.length 4) K := fun hK => by
    simpa only [wLen, leR s ali, wO] using hK
  refine p590_0 (hS.nil (hS.fad (ld2 (len2 (in_sub (by omega) (by omega) (hS.nil (hS.fad (hS.src (hS.nil (hS.fad (hS.pos ?_)))))))))))
  refine ⟨by omega, 40, by simpa using hc, ?_⟩
  refine ⟨⟨rfl, rfl⟩, gk_t (gk_t (in_geq ?_))⟩
  have b1 : ¬ ((st.length : Int) - 1 ≥ 40) := by omega
  rw [aLs0035 b1]
  refine pk (co_f (hS.nil (hS.fad (hS.src (hS.nil (hS.fad (hS.pos ⟨by omega, 40, by simpa using hc, ?_⟩)))))))
  refine ⟨⟨rfl, rfl⟩, co_t (hS.nil (hS.fad (ld2 (hS.nil (hS.fad (hS.pos ?_))))))⟩
  refine bd_of (cs := [I64 3, SS [], .capped [], I64 p]) rfl (len2 ?_)
  generalize hZ : [I64 0, SS [], .capped [], I64 0] = Z
  refine ⟨by subst hZ; simp, ?_⟩
  have ez : fillS (repl 1 Z) [(0, 4, .agg Z)] = some Z := by subst hZ; rfl
  have hzok : Z.all okCell = true ∧ Z.length = 4 := by subst hZ; exact ⟨rfl, rfl⟩
  have hzid : ∀ n, idsLtL n Z = true := fun n => by subst hZ; simp [idsLtL, idsLt]
  rw [ez]
  simp only [wO, aLs0097, show Nat.blt 0 1 = true from rfl, aLs0004]
  refine ⟨by simp, ?_⟩
  have g1 : (s.bs ++ [Z])[1]? = some [SS l, I64 p, .ref id 0 st.length 4] := by rw [aLs0012 hlt1]; exact h1
  have gi : (s.bs ++ [Z])[id]? = some (cs ++ gar) := by rw [aLs0012 hlt]; exact hid
  have al1 : alive ⟨s.bs ++ [Z], s.ts⟩ 1 = true := by simp only [alive, g1]
  have ali' : alive ⟨s.bs ++ [Z], s.ts⟩ id = true := by simp only [alive, gi, hct]
  have hsrc : srcCells ⟨s.bs ++ [Z], s.ts⟩ 4 (.ref s.bs.length 0 1 4) = some Z := by
    have gN : (s.bs ++ [Z])[s.bs.length]? = some Z := by rw [get_app0]; rfl
    have alN : alive ⟨s.bs ++ [Z], s.ts⟩ s.bs.length = true := by
      simp only [alive, gN]
      subst hZ; rfl
    simp only [srcCells, gN, alN]
    subst hZ
    simp
  refine ⟨id, st.length, cs ++ gar, Z, rfl, by simp [natOfA], hsrc, gi, ⟨hzok.2, hzok.1, rfl, rfl, by simp; omega, ali', by omega, by omega, by simp [LFE, hro]⟩, ?_⟩
  have e3 : (cs ++ gar).take (st.length * 4) = cs := by
    rw [show st.length * 4 = cs.length by omega]; simp
  rw [e3]
  simp only [ceA]
  generalize hF : cs ++ [I64 3, SS [], .capped [], I64 p] = F
  have gg : ((s.bs ++ [Z]).set id [] ++ [F])[1]? = some [SS l, I64 p, .ref id 0 st.length 4] := by
    rw [aLs0012 (by simp; omega), aLs0025 hne]; exact g1
  have al3 : alive ⟨(s.bs ++ [Z]).set id [] ++ [F], s.ts⟩ 1 = true := by simp only [alive, gg]
  refine ⟨al3, al3, ?_⟩
  simp only [wSt, gg, wO, ceR]
  refine ⟨⟨rfl, by simp, by simp [LFE, hro], rfl, .inl (by simp [LFE, hn0]), by omega⟩, ?_⟩
  have e4 : setCells [SS l, I64 p, .ref id 0 st.length 4] (0 + 2) [.ref (s.bs ++ [Z]).length 0 (st.length + 1) 4] = [SS l, I64 p, .ref (s.bs.length + 1) 0 (st.length + 1) 4] := by simp [setCells]
  rw [e4]
  refine ⟨?_, ⟨al1, eqA_ptr _ _⟩, ⟨al1, eqA_ptr _ _⟩, ?_, ⟨al1, eqA_ptr _ _⟩, ⟨al1, eqA_ptr _ _⟩, ?_, ?_, ?_⟩
  · intro i o i0 q z y h1 h2
    simp only [AV.ptr.injEq] at h1
    simp only [AV.ref.injEq, aLs0011, aLs0010, aLs0020] at h2
    omega
  · simp only [wLd, g1, wO, wPart, xL, xM, xF, xG]
    exact eqA_ref _ _ _ _
  · simp only [wLd, g1, wO, wPart, xL, xM, xF, xG]
    exact eqA_I _
  · simp only [wLen, leR _ ali', wO]
    exact eqA_I _
  refine par_next (l := l) (st := (p, []) :: st) ?_ hp hro fun s' h' => h'
  have hl4 : (s.bs ++ [Z]).length = s.bs.length + 1 := by simp
  refine ⟨s.bs.length + 1, F, [], ?_, by omega, ?_, ?_, ?_⟩
  · exact aLs0070 (by simp)
  · rw [aLs0025 (by omega), aLs0058 (by simp)]
    simp
  · subst hF
    have : st.isEmpty = false := by cases st <;> simp at hne0 ⊢
    exact ⟨cs, .capped [], s.ts.length, by rw [this]; rfl, rfl, .inl ⟨rfl, rfl, rfl⟩, hop⟩
  · intro x hx
    simp only [aLs0078, aLs0011, aLs0010, aLs0020, aLs0031]
    rcases aLs0053 hx with h | h
    · rcases aLs0016.1 h with h | h
      · rcases aLs0053 h with h | h
        · rcases aLs0016.1 h with h | h
          · exact idsLtL_mono (by omega) _ (hok x h)
          · simp only [aLs0054] at h; rw [h]; exact hzid _
        · rw [h]; rfl
      · simp only [aLs0054] at h
        rw [h]
        subst hF
        exact idsLtL_app (hop.ids _) (by simp [idsLtL, idsLt])
    · rw [h]; simp [idsLtL, idsLt]
theorem close_spec {o o' : Nat} {cs0 cs1 : List (List PV)} (h : PS l p ((o, cs0) :: (o', cs1) :: st) s) (hp : p < 2 ^ 40) (hc : l[p]? = some 41) (hs : st.length < 2 ^ 20) (hl1 : cs1.length < 2 ^ 20) {L : Lim} (hn0 : L.n0 = 0) (hro : L.ro = 0) (hrt : L.rt = 0) :
    ∃ v s', PS l (p + 1) ((o', cs1 ++ [nodeR 3 [] cs0 o]) :: st) s' ∧ CallE (env0 R) L 90 [.ptr 1 0] s v s' := by
  refine m590 ?_
  have hS := h
  obtain ⟨id, cs, gar, h1, hne, hid, hop, hok⟩ := h
  have hcl := hop.len
  obtain ⟨cs', a, m', rfl, hrw, ha, hop'⟩ := hop
  have hcl' := hop'.len
  have hA : RowsO a cs0 := by
    rcases ha with ⟨rfl, rfl, _⟩ | ⟨rfl, _⟩
    · exact .inl (.capped _)
    · exact .inr ⟨_, rfl⟩
  have hop2 : Opn s.ts s.ts.length ((o', cs1) :: st) cs' := by
    refine hop'.mono ?_
    rcases ha with ⟨_, _, rfl⟩ | ⟨_, h, _⟩
    · exact aLs0005 _
    · omega
  have hlt := (aLs0014.1 hid).1
  have hlt1 := (aLs0014.1 h1).1
  simp only [aLs0010, List.isEmpty_cons, aLs0009] at h1 hid hcl hcl'
  have ld2 : ∀ {K : AV → Prop}, K (.ref id 0 (st.length + 1 + 1) 4) → wLd (env0 R) s none (.ptr 1 2) K := fun hK => by
    simpa [wLd, h1, wO, wPart] using hK
  have ali : alive s id = true := by
    simp only [alive, hid]
    cases cs' <;> simp
  have len2 : ∀ {K : AV → Prop}, K (I64 (st.length + 1 + 1 : Nat)) → wLen s (.ref id 0 (st.length + 1 + 1) 4) K := fun hK => by
    simpa only [wLen, leR s ali, wO] using hK
  refine p590_0 (hS.nil (hS.fad (ld2 (len2 (in_sub (by omega) (by omega) (hS.nil (hS.fad (hS.src (hS.nil (hS.fad (hS.pos ?_)))))))))))
  refine ⟨by omega, 41, by simpa using hc, ?_⟩
  refine ⟨⟨rfl, rfl⟩, gk_f (by decide) (gk_f (by decide) (pk (co_f ?_)))⟩
  refine hS.nil (hS.fad (hS.src (hS.nil (hS.fad (hS.pos ⟨by omega, 41, by simpa using hc, ⟨rfl, rfl⟩, co_f ?_⟩)))))
  refine in_eql ?_
  have b1 : (((st.length + 1 + 1 : Nat) : Int) - 1 == 0) = false := by simp; omega
  rw [b1]
  refine co_f (hS.nil (hS.fad (ld2 ?_)))
  have e2 : (((st.length + 1 + 1 : Nat) : Int) - 1) = ((st.length + 1 : Nat) : Int) := by omega
  rw [e2]
  refine ⟨⟨by omega, by omega, rfl, ali⟩, ?_⟩
  have e3 : 0 + ((st.length + 1 : Nat) : Int).toNat * 4 = cs'.length := by simp; omega
  rw [e3]
  simp only [wLd, hid, wO, wPart, xL, xM, xF, xG]
  refine ⟨by simp, ?_⟩
  have e4 : (((cs' ++ [I64 3, SS [], a, I64 o]) ++ gar).drop cs'.length).take 4 = [I64 3, SS [], a, I64 o] := by
    rw [aLs0023, List.drop_left]; rfl
  rw [e4]
  simp only [wNew]
  generalize hX : [I64 3, SS [], a, I64 o] = X
  have hXl : X.length = 4 := by subst hX; rfl
  have hXo : X.all okCell = true := by subst hX; simp [okI, okS, hA.ok]
  have hXi : ∀ n, idsLtL n X = true := fun n => by subst hX; simp [idsLtL, idsLt, hA.idsLt]
  have hXb : noBlkL X = true := by subst hX; simp [nbL, nbP, nbN, hA.noBlk]
  simp only [wSt, get_app0, aLs0017, wO, ceA]
  refine ⟨⟨hXl, by rw [hXl]; simp, by simp [LFE, hro], hXo, .inr hXb, by omega⟩, ?_⟩
  have e5 : setCells [I64 0, SS [], .capped [], I64 0] 0 X = X := by subst hX; rfl
  rw [set_app0, e5]
  simp only [List.set_cons_zero]
  have g1 : (s.bs ++ [X])[1]? = some [SS l, I64 p, .ref id 0 (st.length + 1 + 1) 4] := by rw [aLs0012 hlt1]; exact h1
  have gi : (s.bs ++ [X])[id]? = some ((cs' ++ X) ++ gar) := by rw [aLs0012 hlt, ← hX]; exact hid
  have al1 : alive ⟨s.bs ++ [X], s.ts⟩ 1 = true := by simp only [alive, g1]
  have ali' : alive ⟨s.bs ++ [X], s.ts⟩ id = true := by
    simp only [alive, gi]
    rw [← hX]
    cases cs' <;> simp
  refine ⟨al1, al1, ?_⟩
  simp only [wLd, g1, wO, wPart, aLs0031, aLs0027, aLs0017, xL, xM, xF, xG]
  refine ⟨0, st.length + 1, rfl, by simp [optNat, natOfA]; omega, ⟨by omega, by omega, rfl, by omega, ali'⟩, ?_⟩
  rw [if_neg (by omega)]
  refine ⟨al1, al1, ?_⟩
  simp only [wSt, g1, wO, ceR]
  refine ⟨⟨rfl, by simp, by simp [LFE, hro], rfl, .inl (by simp [LFE, hn0]), by omega⟩, ?_⟩
  have e6 : setCells [SS l, I64 p, .ref id 0 (st.length + 1 + 1) 4] (0 + 2) [.ref id (0 + 0 * 4) (st.length + 1 - 0) 4] = [SS l, I64 p, .ref id 0 (st.length + 1) 4] := by simp [setCells]
  rw [e6]
  have gN : ((s.bs ++ [X]).set 1 [SS l, I64 p, .ref id 0 (st.length + 1) 4])[s.bs.length]? = some X := by
    rw [aLs0025 (by omega), get_app0]; rfl
  simp only [gN, wO]
  refine ⟨by omega, ?_⟩
  have e7 : (X.drop 0).take 4 = X := by rw [aLs0040, aLs0019 (by omega)]
  rw [e7]
  have hP : PS l p ((o', cs1) :: st) ⟨(s.bs ++ [X]).set 1 [SS l, I64 p, .ref id 0 (st.length + 1) 4], s.ts⟩ := by
    refine ⟨id, cs', X ++ gar, aLs0070 (by simp; omega), hne, ?_, hop2, ?_⟩
    · rw [aLs0025 (aLs0030 hne), gi, aLs0023]
    · intro x hx
      simp only [aLs0078, aLs0011, aLs0010, aLs0020, aLs0031]
      rcases aLs0053 hx with h | h
      · rcases aLs0016.1 h with h | h
        · exact idsLtL_mono (by omega) _ (hok x h)
        · simp only [aLs0054] at h; rw [h]; exact hXi _
      · rw [h]; simp [idsLtL, idsLt]; omega
  obtain ⟨v, s2, ⟨h2, _⟩, hcall⟩ := nadd_spec (R := R) hP (k := 3) (w := []) (a0 := a) (rs := cs0) (q := o) hA hl1 hs (L := LFE (env0 R) 90 L.n0 L.ro L.rt) hro hrt
  rw [hX] at hcall
  exact ⟨v, s2, hcall, par_next h2 hp hro fun s' h' => h'⟩
end
theorem wB_ne {c : UInt8} (h : wB c = true) : ¬ c.toNat = 32 ∧ ¬ c.toNat = 10 ∧ ¬ c.toNat = 59 ∧ ¬ c.toNat = 40 ∧ ¬ c.toNat = 41 ∧ ¬ c.toNat = 34 := by
  rw [wB_eq] at h
  simp only [isWB, isLet, isDig, aLs0029, aLs0002, aLs0079, aLs0028] at h
  omega
theorem u8_eql {a b : Int} {K : AV → Prop} (h : K (BB (a == b))) : wInt .u8 .eql (.pv (.sc (.int .u8 a))) (.pv (.sc (.int .u8 b))) K := ⟨⟨rfl, rfl⟩, h⟩
theorem nbq {a b : Nat} (h : ¬ a = b) : Nat.beq a b = false := aLs0076.2 fun e => h (aLs0007 e)
theorem natB {a b : Nat} : Nat.beq a b = ((a : Int) == (b : Int)) := by
  rw [aLs0039]
  simp
  omega
section
variable {R : Nat → Option (List PV)} {l : List UInt8}
theorem par_loop (hl : l.length ≤ 65536) {rows : List (List PV)} {Post : AV → Sto → Prop} (hPost : ∀ s', parR s' = some rows → Post (.tuple []) s') : ∀ (f p : Nat) (st : List (Nat × List (List PV))) (s : Sto), p ≤ l.length → PS l p st s → st ≠ [] → st.length ≤ 41 → (∀ x ∈ st, x.2.length ≤ p) →
    parG f (l.drop p) p st = some rows → P566_2 R 0 0 0 (.ptr 1 0) s Post
  | 0, p, st, s, _, _, _, _, _, hg => by simp [parG] at hg
  | f + 1, p, st, s, hp, h, hne, hlen, hrows, hg => by
    refine p566_2 (h.nil (h.fad (h.pos (h.nil (h.fad (h.src ?_))))))
    simp only [wSlen]
    refine in_lss ?_
    by_cases hlt : p < l.length
    · have h1 : ((p : Int) < ((⟨l.toArray⟩ : ByteArray).data.toList.length : Nat)) := by simp; omega
      rw [aLs0033 h1]
      obtain ⟨c, hc⟩ : ∃ c, l[p]? = some c := ⟨_, aLs0008 hlt⟩
      refine co_t (p566_3 (h.nil (h.fad (h.src (h.nil (h.fad (h.pos ⟨by omega, c, by simpa using hc, u8_eql ?_⟩)))))))
      rw [drop_cons hc] at hg
      simp only [parG] at hg
      have hn : ∀ k : Nat, Nat.beq c.toNat k = ((c.toNat : Int) == (k : Int)) := fun k => natB
      cases b1 : Nat.beq c.toNat 32 with
      | true =>
        rw [b1] at hg
        rw [show ((c.toNat : Int) == 32) = true from (hn 32).symm.trans b1]
        simp only [aLs0004] at hg
        refine gk_f (by decide) (gk_f (by decide) (pk (co_t (h.nil (h.fad (h.pos (in_add (by omega) (by omega) (h.nil (h.fad ?_)))))))))
        have e : ((p : Int) + 1) = ((p + 1 : Nat) : Int) := by omega
        rw [e]
        refine h.setpos rfl fun s' h' _ => ?_
        exact par_loop hl hPost f (p + 1) st s' (by omega) h' hne hlen (fun x hx => by have := hrows x hx; omega) hg
      | false =>
        rw [b1] at hg
        rw [show ((c.toNat : Int) == 32) = false from (hn 32).symm.trans b1]
        simp only [aLs0009] at hg
        have i1 := aLs0095 b1
        have g10 : ∀ {K : AV → Sto → Prop}, (¬ c.toNat = 10) → K (BB false) s → wGK (BB false) false s (fun K => wInt .u8 .eql (.pv (.sc (.int .u8 c.toNat))) (.pv (.sc (.int .u8 10))) fun a => K a s) K := fun hk hK => by
          refine gk_t (u8_eql ?_)
          rw [show ((c.toNat : Int) == 10) = false from (hn 10).symm.trans (nbq hk)]
          exact hK
        cases b2 : Nat.beq c.toNat 40 with
        | true =>
          rw [b2] at hg
          simp only [aLs0004] at hg
          have i2 := aLs0007 b2
          have hc40 : c = 40 := UInt8.toNat_inj.1 i2
          cases b3 : Nat.ble st.length 40 with
          | false => rw [b3] at hg; simp at hg
          | true =>
            rw [b3] at hg
            simp only [aLs0004] at hg
            have i3 := aLs0022 b3
            refine gk_t (g10 (by omega) (pk (co_f (u8_eql ?_))))
            rw [show ((c.toNat : Int) == 59) = false from (hn 59).symm.trans (nbq (by omega))]
            refine co_f (u8_eql ?_)
            rw [show ((c.toNat : Int) == 40) = true from (hn 40).symm.trans b2]
            refine gk_f (by decide) (gk_f (by decide) (pk (co_t ?_)))
            obtain ⟨v, s', h', hcall⟩ := open_spec (R := R) h (by omega) (by rw [hc, hc40]) i3 hne (L := LFE (env0 R) 66 0 0 0) rfl rfl
            refine ⟨v, s', hcall, ?_⟩
            refine par_loop hl hPost f (p + 1) ((p, []) :: st) s' (by omega) h' (by simp) (by simp; omega) (fun x hx => ?_) hg
            rcases aLs0006.1 hx with rfl | hx
            · simp
            · have := hrows x hx; omega
        | false =>
          rw [b2] at hg
          simp only [aLs0009] at hg
          have i2 := aLs0095 b2
          cases b3 : Nat.beq c.toNat 41 with
          | true =>
            rw [b3] at hg
            simp only [aLs0004] at hg
            have i3 := aLs0007 b3
            have hc41 : c = 41 := UInt8.toNat_inj.1 i3
            refine gk_t (g10 (by omega) (pk (co_f (u8_eql ?_))))
            rw [show ((c.toNat : Int) == 59) = false from (hn 59).symm.trans (nbq (by omega))]
            refine co_f (u8_eql ?_)
            rw [show ((c.toNat : Int) == 40) = false from (hn 40).symm.trans b2]
            refine gk_t (gk_t (u8_eql ?_))
            rw [show ((c.toNat : Int) == 41) = true from (hn 41).symm.trans b3]
            refine pk (co_t ?_)
            match st, hg, h, hlen, hrows with
            | [], hg, _, _, _ => simp at hg
            | [(o, cs)], hg, _, _, _ => simp at hg
            | (o, cs) :: (o', cs') :: st', hg, h, hlen, hrows =>
              simp only at hg
              obtain ⟨v, s', h', hcall⟩ := close_spec (R := R) h (by omega) (by rw [hc, hc41]) (by simp at hlen; omega) (by have := hrows (o', cs') (by simp); simp at this; omega) (L := LFE (env0 R) 66 0 0 0) rfl rfl rfl
              refine ⟨v, s', hcall, ?_⟩
              refine par_loop hl hPost f (p + 1) _ s' (by omega) h' (by simp) (by simp at hlen ⊢; omega) (fun x hx => ?_) hg
              rcases aLs0006.1 hx with rfl | hx
              · have := hrows (o', cs') (by simp)
                simp at this ⊢; omega
              · have := hrows x (by simp [hx]); omega
          | false =>
            rw [b3] at hg
            simp only [aLs0009] at hg
            have i3 := aLs0095 b3
            cases b4 : wB c with
            | false => rw [b4] at hg; simp at hg
            | true =>
              rw [b4] at hg
              simp only [aLs0004] at hg
              obtain ⟨j1, j2, j3, j4, j5, j6⟩ := wB_ne b4
              cases b5 : Nat.ble ((c :: l.drop (p + 1)).takeWhile wB).length 24 with
              | false => rw [b5] at hg; simp at hg
              | true =>
                rw [b5] at hg
                simp only [aLs0004] at hg
                have i5 := aLs0022 b5
                refine gk_t (g10 j2 (pk (co_f (u8_eql ?_))))
                rw [show ((c.toNat : Int) == 59) = false from (hn 59).symm.trans (nbq j3)]
                refine co_f (u8_eql ?_)
                rw [show ((c.toNat : Int) == 40) = false from (hn 40).symm.trans b2]
                refine gk_t (gk_t (u8_eql ?_))
                rw [show ((c.toNat : Int) == 41) = false from (hn 41).symm.trans b3]
                refine pk (co_f (u8_eql ?_))
                rw [show ((c.toNat : Int) == 34) = false from (hn 34).symm.trans (nbq j6)]
                refine co_f (wCall_pure (wordByte0_spec c.toNat) ?_)
                rintro v rfl
                rw [← wB_eq, b4]
                refine co_t ?_
                rw [← drop_cons hc] at hg i5
                match st, hg, h, hne, hlen, hrows with
                | [], _, _, hne, _, _ => exact absurd rfl hne
                | (o, cs) :: st', hg, h, hne, hlen, hrows =>
                  simp only at hg
                  obtain ⟨v, s', h', hcall⟩ := word0_spec (R := R) h (by omega) hp i5 (by have := hrows (o, cs) (by simp); simp at this; omega) (by simp at hlen; omega) (L := LFE (env0 R) 66 0 0 0) rfl rfl
                  refine ⟨v, s', hcall, ?_⟩
                  have hw0 : 0 < ((l.drop p).takeWhile wB).length := by
                    rw [drop_cons hc, aLs0100, if_pos b4]; simp
                  have hle : p + ((l.drop p).takeWhile wB).length ≤ l.length := by
                    have := (aLs0112 wB (l := l.drop p)).length_le
                    simp at this; omega
                  rw [List.drop_drop] at hg
                  refine par_loop hl hPost f _ _ s' hle h' (by simp) (by simpa using hlen) (fun x hx => ?_) hg
                  rcases aLs0006.1 hx with rfl | hx
                  · have := hrows (o, cs) (by simp)
                    simp at this ⊢; omega
                  · have := hrows x (by simp [hx]); omega
    · have h1 : ¬ ((p : Int) < ((⟨l.toArray⟩ : ByteArray).data.toList.length : Nat)) := by simp; omega
      rw [aLs0035 h1]
      have hd : l.drop p = [] := aLs0024 (by omega)
      rw [hd] at hg
      simp only [parG] at hg
      match st, hg, h with
      | [], hg, _ => simp at hg
      | _ :: _ :: _, hg, _ => simp at hg
      | [(o, cs)], hg, h =>
        simp only [aLs0001] at hg
        subst hg
        have hS := h
        obtain ⟨id, cells, gar, g1, g2, g3, g4, hok⟩ := h
        obtain ⟨cs', a, m', rfl, hrw, ha, hop'⟩ := g4
        simp only [Opn] at hop'
        subst hop'
        have hA : RowsO a cs := by
          rcases ha with ⟨rfl, rfl, _⟩ | ⟨rfl, _⟩
          · exact .inl (.capped _)
          · exact .inr ⟨_, rfl⟩
        have ali : alive s id = true := by simp only [alive, g3]; rfl
        refine co_f (p566_4 (hS.nil (hS.fad ?_)))
        have : ∀ {K : AV → Prop}, K (.ref id 0 1 4) → wLd (env0 R) s none (.ptr 1 2) K := fun hK => by
          simpa [wLd, g1, wO, wPart] using hK
        refine this ?_
        simp only [wLen, leR s ali, wO]
        refine in_gtr (co_f ?_)
        refine hPost s ?_
        simp only [parR, g1, g3, aLs0010, aLs0020, aLs0041, aLs0037]
        exact hA.rowsOf
theorem parse_all (l : List UInt8) (rows : List (List PV)) (h : parP l = some rows) : ∃ n s', callN (env0 R) n L00 66 [.ptr 1 0] (parI ⟨l.toArray⟩) = some (.tuple [], s') ∧ parR s' = some rows := by
  unfold parP at h
  cases hb : Nat.ble l.length 65536 with
  | false => rw [hb] at h; simp at h
  | true =>
    rw [hb] at h
    simp only [aLs0004] at h
    have hl := aLs0022 hb
    have hP : PS l 0 [(0, [])] (parI ⟨l.toArray⟩) := by
      refine ⟨0, [I64 0, SS [], .capped [], I64 0], [], rfl, by omega, rfl, ⟨[], .capped [], _, rfl, rfl, .inl ⟨rfl, rfl, rfl⟩, rfl⟩, ?_⟩
      intro x hx
      simp only [parI, aLs0006, aLs0048, aLs0049] at hx
      rcases hx with rfl | rfl <;> simp [parI, idsLtL, idsLt]
    have := m566 (R := R) (L := L00) (s := parI ⟨l.toArray⟩) (t0 := .ptr 1 0) (Post := fun v s' => v = .tuple [] ∧ parR s' = some rows) (p566_0 ?_)
    · obtain ⟨v, s', ⟨rfl, h2⟩, n, hn⟩ := this
      exact ⟨n, s', hn n (aLs0005 _), h2⟩
    · refine hP.nil (hP.fad (hP.src ?_))
      simp only [wSlen]
      refine in_gtr ?_
      have h1 : ¬ (((⟨l.toArray⟩ : ByteArray).data.toList.length : Nat) : Int) > 65536 := by simp; omega
      rw [aLs0035 h1]
      refine co_f (p566_1 ?_)
      exact par_loop (R := R) hl (fun s' hs => ⟨rfl, hs⟩) (l.length + 1) 0 _ _ (by omega) hP (by simp) (by simp) (fun x hx => by simp at hx; rw [hx]; simp) (by simpa using h)
end
theorem CallE.of_told {E : Env} {L : Lim} {f : FuncId} {args : List AV} {s s' : Sto} {v : AV} {T : Lim → List AV → Sto → Option (AV × Sto)} {fn : Func} (hfn : E.P.funcs[f]? = some fn) (hc : E.clone f = true) (ht : E.told f = some T) (h : T L args s = some (v, s')) : CallE E L f args s v s' := by
  refine ⟨1, fun m hm => ?_⟩
  obtain ⟨m, rfl⟩ : ∃ m', m = m' + 1 := ⟨m - 1, by omega⟩
  simp only [callN, hfn, hc, aLs0004, toldA, ht, h]
section
variable {R : Nat → Option (List PV)}
theorem cnan_spec (w : List UInt8) : PureC (env R) 133 [SS w] fun r => r = BB false := by
  refine e133 (u0 := SS w) (by simp) (p133_0 ?_)
  simp [QP, QI]
theorem snan_spec (w : List UInt8) : PureC (env R) 123 [SS w] fun r => r = BB false := by
  refine e123 (u0 := SS w) (by simp) (p123_0 ?_)
  simp [QP, QI]
theorem less_spec (a b : List UInt8) : PureC (env R) 122 [SS a, SS b] fun r => ∃ c, r = BB c := by
  refine e122 (u0 := SS a) (u1 := SS b) (by simp) (p122_0 ?_)
  refine wCall_pure (cnan_spec a) ?_
  rintro v rfl
  simp [QP, QI]
def WRep (bs : List (List AV)) (l : List (List UInt8)) (x : AV) : Prop := (x = .capped [] ∧ l = []) ∨ ∃ id, x = .ref id 0 l.length 1 ∧ bs[id]? = some (l.map SS) ∧ l ≠ []
theorem alive_words {s : Sto} {id : Nat} {l : List (List UInt8)} (hid : s.bs[id]? = some (l.map SS)) (hne : l ≠ []) : alive s id = true := by
  obtain ⟨c, r, hc⟩ : ∃ c r, l = c :: r := by
    cases l with
    | nil => exact absurd rfl hne
    | cons c r => exact ⟨c, r, rfl⟩
  simp only [alive, hid, hc, aLs0018]
theorem st_eql {a b : List UInt8} {K : AV → Prop} (h : K (BB (a == b))) : wStr .eql (SS a) (SS b) K := h
theorem gk_u {want : Bool} {s : Sto} {W : (AV → Sto → Prop) → Prop} {K : AV → Sto → Prop} (h : K (.tuple []) s) : wGK (.tuple []) want s W K := h
theorem idx_ref {s : Sto} {id i : Nat} {l : List (List UInt8)} {w : List UInt8} (hid : s.bs[id]? = some (l.map SS)) (hne : l ≠ []) (hw : l[i]? = some w) {K : AV → Prop} (h : K (SS w)) : wIdx s 1 (.ref id 0 l.length 1) (I64 i) fun a => wLd (env R) s none a K := by
  have hi : i < l.length := (aLs0014.1 hw).1
  refine ⟨⟨by omega, by omega, rfl, alive_words hid hne⟩, ?_⟩
  simp only [wLd, hid, wO, wPart, xL, xM, xF, xG]
  have e : 0 + ((i : Int).toNat) * 1 = i := by omega
  rw [e, aLs0032, hw]
  exact h
theorem bsearch_loop {w : List UInt8} {l : List (List UInt8)} {id : Nat} {s : Sto} (hid : s.bs[id]? = some (l.map SS)) (hne : l ≠ []) (hl : l.length < 2 ^ 40) {Post : AV → Prop} (hP : ∀ (i : Nat) b, i ≤ l.length → (b = true → l[i]? = some w) → Post (.tuple [I64 i, BB b])) {n0 ro rt n m : Nat} :
    ∀ (d i j : Nat), j - i ≤ d → i ≤ j → j ≤ l.length → P104_1 R n0 ro rt (.ref id 0 l.length 1) (SS w) (I64 l.length) (I64 i) (I64 j) s (QI n m Post) := by
  have fin : ∀ (i : Nat) b, i ≤ l.length → (b = true → l[i]? = some w) → QI n m Post (.tuple [I64 i, BB b]) s := fun i b h1 h2 => ⟨_, by simp, hP i b h1 h2⟩
  intro d
  induction d with
  | zero =>
    intro i j h1 h2 h3
    have e : i = j := by omega
    subst e
    refine p104_1 (in_lss ?_)
    simp only [Int.lt_irrefl, aLs0080]
    refine co_f (p104_3 (in_lss ?_))
    by_cases hi : i < l.length
    · obtain ⟨u, hu⟩ : ∃ u, l[i]? = some u := ⟨_, aLs0008 hi⟩
      have b1 : decide ((i : Int) < (l.length : Int)) = true := by simpa using hi
      rw [b1]
      refine gk_t (gk_t ?_)
      refine gk_t ?_
      have hi' : i < l.length := hi
      refine ⟨⟨by omega, by omega, rfl, alive_words hid hne⟩, ?_⟩
      have e : 0 + ((i : Int).toNat) * 1 = i := by omega
      rw [e]
      refine gk_t ?_
      simp only [wLd, hid, wO, wPart, aLs0032, hu, aLs0065, xL, xM, xF, xG]
      refine gk_t (gk_t (st_eql ?_))
      cases hb : (u == w) with
      | true =>
        have huw : u = w := by simpa using hb
        subst huw
        refine gk_t ?_
        refine gk_f (by simp) (gk_f (by simp) (gk_f (by simp) (gk_f (by simp) (gk_f (by simp) (gk_f (by simp) (gk_u (gk_u (gk_f (by simp) ?_))))))))
        exact gk_t (pk (pk (fin i true h3 fun _ => hu)))
      | false =>
        refine gk_t ?_
        refine gk_t (gk_t (gk_t ?_))
        refine ⟨⟨by omega, by omega, rfl, alive_words hid hne⟩, ?_⟩
        rw [e]
        refine gk_t ?_
        simp only [wLd, hid, wO, wPart, aLs0032, hu, aLs0065, xL, xM, xF, xG]
        refine gk_t ?_
        refine wCall_pure (snan_spec u) ?_
        rintro v rfl
        refine gk_t ?_
        refine gk_f (by simp) (gk_f (by simp) ?_)
        exact gk_t (pk (gk_t (pk (pk (fin i false h3 (by simp))))))
    · have b1 : decide ((i : Int) < (l.length : Int)) = false := by simpa using hi
      rw [b1]
      refine gk_f (by simp) (gk_f (by simp) (gk_f (by simp) (gk_f (by simp) (gk_f (by simp) (gk_f (by simp) (gk_f (by simp) ?_))))))
      refine gk_u (gk_u (gk_u (gk_u (gk_u (gk_u (gk_u (gk_u (gk_u ?_))))))))
      exact gk_f (by simp) (pk (fin i false h3 (by simp)))
  | succ d ih =>
    intro i j h1 h2 h3
    by_cases hij : i < j
    · refine p104_1 (in_lss ?_)
      have b1 : decide ((i : Int) < (j : Int)) = true := by simpa using hij
      rw [b1]
      refine co_t (p104_2 (in_add (by omega) (by omega) ?_))
      have hw1 : IntKind.u64.wrap ((i : Int) + j) = (i : Int) + j := by
        unfold IntKind.wrap
        simp [IntKind.bits, IntKind.signed]
        omega
      have hconv : ∀ (K : AV → Prop), K (.pv (.sc (.int .u64 ((i : Int) + j)))) → wConvI .u64 (I64 ((i : Int) + j)) K := by
        intro K h
        simp only [wConvI, hw1]
        exact h
      refine hconv _ ?_
      have hshr : ∀ (K : AV → Prop), K (.pv (.sc (.int .u64 (((i + j) / 2 : Nat) : Int)))) → wInt .u64 .shr (.pv (.sc (.int .u64 ((i : Int) + j)))) (.pv (.sc (.int .u64 1))) K := by
        intro K h
        refine ⟨⟨rfl, rfl⟩, by omega, ?_⟩
        have e : ((i : Int) + j).fdiv (2 ^ (min (1 : Int).toNat IntKind.u64.bits)) = (((i + j) / 2 : Nat) : Int) := by
          have : (2 : Int) ^ (min (1 : Int).toNat IntKind.u64.bits) = 2 := by decide
          rw [this, Int.fdiv_eq_ediv_of_nonneg _ (by omega)]
          omega
        rw [e]
        exact h
      refine hshr _ ?_
      have hw2 : IntKind.i64.wrap ((((i + j) / 2 : Nat) : Int)) = (((i + j) / 2 : Nat) : Int) := by
        unfold IntKind.wrap
        simp [IntKind.bits, IntKind.signed]
        omega
      have hconv2 : ∀ (K : AV → Prop), K (I64 (((i + j) / 2 : Nat) : Int)) → wConvI .i64 (.pv (.sc (.int .u64 (((i + j) / 2 : Nat) : Int)))) K := by
        intro K h
        simp only [wConvI, hw2]
        exact h
      refine hconv2 _ ?_
      generalize hh : (i + j) / 2 = h at *
      obtain ⟨u, hu⟩ : ∃ u, l[h]? = some u := ⟨_, aLs0008 (by omega)⟩
      refine idx_ref hid hne hu ?_
      refine wCall_pure (less_spec u w) ?_
      rintro v ⟨c, rfl⟩
      cases c with
      | true =>
        refine co_t (in_add (by omega) (by omega) ?_)
        have := ih (h + 1) j (by omega) (by omega) h3
        simpa using this
      | false => exact co_f (ih i h (by omega) (by omega) (by omega))
    · exact ih i j (by omega) h2 h3
theorem bsearch_spec {w : List UInt8} {l : List (List UInt8)} {x : AV} {s : Sto} (hx : WRep s.bs l x) (hl : l.length < 2 ^ 40) :
    ∃ v, (∃ (i : Nat) (b : Bool), v = .tuple [I64 i, BB b] ∧ i ≤ l.length ∧ (b = true → l[i]? = some w)) ∧ ∀ L, CallE (env R) L 104 [x, SS w] s v s := by
  rcases hx with ⟨rfl, rfl⟩ | ⟨id, rfl, hid, hne⟩
  · have : PureC (env R) 104 [.capped [], SS w] fun v => ∃ (i : Nat) (b : Bool), v = .tuple [I64 i, BB b] ∧ i ≤ ([] : List (List UInt8)).length ∧ (b = true → ([] : List (List UInt8))[i]? = some w) := by
      refine e104 (u0 := .capped []) (u1 := SS w) (by simp) (p104_0 ?_)
      simp
      refine p104_1 ?_
      simp
      refine p104_3 ?_
      simp [QP, QI]
    obtain ⟨v, h1, h2⟩ := this
    exact ⟨v, h1, fun L => h2 L s⟩
  · have hcl : closeL [] 0 0 [.ref id 0 l.length 1, SS w] = none := by simp [closeL, Tel.close, refRows]
    refine i104 hcl (p104_0 ?_)
    have hal := alive_words hid hne
    have hlen : ∀ K : AV → Prop, K (I64 l.length) → wLen s (.ref id 0 l.length 1) K := by
      intro K h
      simp only [wLen, lenA, hal, aLs0004, wO]
      exact h
    refine hlen _ ?_
    exact bsearch_loop hid hne hl (fun i b h1 h2 => ⟨i, b, rfl, h1, h2⟩) _ 0 l.length (aLs0005 _) (by omega) (aLs0005 _)
end
mutual
def noms : Ty → List (List UInt8)
  | .mk k n _ ts => (bif k == 2 then [n] else []) ++ nomsL ts
def nomsL : List Ty → List (List UInt8)
  | [] => []
  | t :: l => noms t ++ nomsL l
end
theorem insert_mem {l : List (List UInt8)} {w x : List UInt8} {i : Nat} : x ∈ l.take i ++ w :: l.drop i ↔ x ∈ l ∨ x = w := by
  rw [aLs0016, aLs0006]
  have : x ∈ l ↔ x ∈ l.take i ∨ x ∈ l.drop i := by
    rw [← aLs0016, List.take_append_drop]
  rw [this]
  constructor
  · rintro (h | h | h)
    · exact .inl (.inl h)
    · exact .inr h
    · exact .inl (.inr h)
  · rintro ((h | h) | h)
    · exact .inl h
    · exact .inr (.inr h)
    · exact .inr (.inl h)
theorem insert_len {l : List (List UInt8)} {w : List UInt8} {i : Nat} (hi : i ≤ l.length) : (l.take i ++ w :: l.drop i).length = l.length + 1 := by
  simp
  omega
def NS (q : Nat) (l : List (List UInt8)) (bs : List (List AV)) : Prop := ∃ x, bs[q]? = some [x] ∧ WRep bs l x
structure Stp (q : Nat) (l l' : List (List UInt8)) (new : List (List UInt8)) (s s' : Sto) : Prop where
  ns : NS q l' s'.bs
  mem : ∀ x, x ∈ l' ↔ x ∈ l ∨ x ∈ new
  len : l'.length ≤ l.length + new.length
  ts : s'.ts = s.ts
  grow : s.bs.length ≤ s'.bs.length
  keep : ∀ (p : Nat) (k : Int) (r : List AV), s.bs[p]? = some (I64 k :: r) → s'.bs[p]? = some (I64 k :: r)
section
variable {R : Nat → Option (List PV)}
theorem words_ok (l : List (List UInt8)) : (l.map SS).all okCell = true := by
  rw [aLs0015]
  intro x hx
  obtain ⟨w, _, rfl⟩ := aLs0052.1 hx
  rfl
theorem insert_call {w : List UInt8} {l : List (List UInt8)} {x : AV} {s : Sto} {q i : Nat} (hq : s.bs[q]? = some [x]) (hx : WRep s.bs l x) (hl : l.length < 2 ^ 20) (hi : i ≤ l.length) {L : Lim} (hro : L.ro = 0) :
    ∃ id bs', CallE (env R) L 105 [x, I64 i, .capped [[.sc (.string ⟨w.toArray⟩)]]] s (.ref id 0 (l.length + 1) 1) ⟨bs', s.ts⟩ ∧ bs'[id]? = some ((l.take i ++ w :: l.drop i).map SS) ∧ bs'[q]? = some [x] ∧ q ≠ id ∧ s.bs.length ≤ bs'.length ∧ q < bs'.length ∧
      (∀ (p : Nat) (k : Int) (r : List AV), s.bs[p]? = some (I64 k :: r) → bs'[p]? = some (I64 k :: r)) := by
  have hql : q < s.bs.length := (aLs0014.1 hq).1
  have ei : (I64 i) = .pv (.sc (.int .i64 (.ofNat i))) := rfl
  rcases hx with ⟨rfl, rfl⟩ | ⟨id, rfl, hid, hne⟩
  · have hi0 : i = 0 := by simpa using hi
    subst hi0
    refine ⟨s.bs.length, s.bs ++ [[SS w]], CallE.of_told Tryz.func105 (by kernel_rfl) (T := insT) (by kernel_rfl) ?_, ?_, ?_, by omega, by simp, by simp; omega, ?_⟩
    · simp only [insT]
      simp [okCell]
    · simp
    · rw [aLs0012 hql, hq]
    · intro p k r hp
      have : p < s.bs.length := (aLs0014.1 hp).1
      rw [aLs0012 this, hp]
  · have hil : id < s.bs.length := (aLs0014.1 hid).1
    have hne' : id ≠ q := by
      intro e
      subst e
      rw [hq] at hid
      cases l with
      | nil => exact hne rfl
      | cons c r => simp at hid
    have h1 : 1 ≤ l.length := by
      cases l with
      | nil => exact absurd rfl hne
      | cons c r => simp
    refine ⟨s.bs.length, s.bs.set id [] ++ [(l.take i ++ w :: l.drop i).map SS], CallE.of_told Tryz.func105 (by kernel_rfl) (T := insT) (by kernel_rfl) ?_, ?_, ?_, by omega, by simp, by simp; omega, ?_⟩
    · have b1 : Nat.beq l.length (l.map SS).length = true := by simp
      have b2 : Nat.ble 1 l.length = true := by simpa using h1
      have b3 : Nat.ble i l.length = true := by simpa using hi
      have b4 : Nat.ble l.length 1000000000 = true := by simp; omega
      have b5 : Nat.ble L.ro id = true := by simp [hro]
      have b6 := words_ok l
      simp only [insT, hid, okCell, b1, b2, b3, b4, b5, b6, Bool.and_self, aLs0004]
      simp [aLs0096, aLs0110]
    · rw [aLs0058 (by simp)]
      simp
    · rw [aLs0012 (by simpa using hql), aLs0025 hne', hq]
    · intro p k r hp
      have hpl : p < s.bs.length := (aLs0014.1 hp).1
      have : id ≠ p := by
        intro e
        subst e
        rw [hp] at hid
        cases l with
        | nil => exact hne rfl
        | cons c r => simp at hid
      rw [aLs0012 (by simpa using hpl), aLs0025 this, hp]
theorem add_spec {w : List UInt8} {l : List (List UInt8)} {s : Sto} {q : Nat} (hns : NS q l s.bs) (hl : l.length < 2 ^ 20) {L : Lim} (hro : L.ro = 0) (hn0 : L.n0 = 0) :
    ∃ v s', (v = .tuple [] ∧ ∃ l', Stp q l l' [w] s s') ∧ CallE (env R) L 81 [.ptr q 0, SS w] s v s' := by
  obtain ⟨x, hq, hx⟩ := hns
  have hql : q < s.bs.length := (aLs0014.1 hq).1
  refine m81 (p81_0 ?_)
  simp [hq]
  obtain ⟨v, ⟨i, b, rfl, hi, hb⟩, hc⟩ := bsearch_spec (R := R) (w := w) hx (by omega)
  refine ⟨_, _, hc _, ?_⟩
  simp
  cases b with
  | true =>
    simp
    refine ⟨l, ⟨x, hq, hx⟩, fun y => ⟨.inl, ?_⟩, by simp, rfl, aLs0005 _, fun _ _ _ h => h⟩
    rintro (h | h)
    · exact h
    · simp only [aLs0006, aLs0048, aLs0049] at h
      rw [h]
      exact aLs0013 (hb rfl)
  | false =>
    simp [hq, wBsl, repl, rowsBy]
    obtain ⟨id, bs', h1, h2, h3, h4, h5, h6, h7⟩ := insert_call (R := R) (w := w) hq hx hl hi (L := LFE (env R) 81 L.n0 L.ro L.rt) hro
    refine ⟨_, _, h1, ?_⟩
    simp [h3, hro, hn0]
    have hset : ∀ y, (bs'.set q y)[q]? = some y := fun y => by simp [h6]
    refine ⟨l.take i ++ w :: l.drop i, ⟨_, hset _, .inr ⟨id, by rw [insert_len hi], by rw [aLs0025 h4]; exact h2, by simp⟩⟩, fun y => ?_, by rw [insert_len hi]; simp, rfl, by simpa using h5, ?_⟩
    · rw [insert_mem]
      simp
    · intro p k r hp
      have : q ≠ p := by
        intro e
        subst e
        rw [hq] at hp
        simp at hp
        rcases hx with ⟨rfl, _⟩ | ⟨id, rfl, _⟩ <;> simp at hp
      simp only
      rw [aLs0025 this]
      exact h7 p k r hp
theorem Stp.trans {q : Nat} {l l1 l2 n1 n2 : List (List UInt8)} {s s1 s2 : Sto} (h1 : Stp q l l1 n1 s s1) (h2 : Stp q l1 l2 n2 s1 s2) : Stp q l l2 (n1 ++ n2) s s2 := by
  refine ⟨h2.ns, fun x => ?_, ?_, by rw [h2.ts, h1.ts], aLs0057 h1.grow h2.grow, fun p k r h => h2.keep p k r (h1.keep p k r h)⟩
  · rw [h2.mem, h1.mem, aLs0016]
    constructor
    · rintro ((h | h) | h)
      · exact .inl h
      · exact .inr (.inl h)
      · exact .inr (.inr h)
    · rintro (h | h | h)
      · exact .inl (.inl h)
      · exact .inl (.inr h)
      · exact .inr h
  · have := h1.len
    have := h2.len
    rw [aLs0011]
    omega
theorem Stp.push {q : Nat} {l : List (List UInt8)} {s : Sto} (h : NS q l s.bs) (b : List AV) : Stp q l l [] s ⟨s.bs ++ [b], s.ts⟩ := by
  obtain ⟨x, hq, hx⟩ := h
  have hql : q < s.bs.length := (aLs0014.1 hq).1
  refine ⟨⟨x, by rw [aLs0012 hql, hq], ?_⟩, by simp, by simp, rfl, by simp, fun p k r hp => ?_⟩
  · rcases hx with ⟨h1, h2⟩ | ⟨id, h1, h2, h3⟩
    · exact .inl ⟨h1, h2⟩
    · exact .inr ⟨id, h1, by rw [aLs0012 (aLs0014.1 h2).1, h2], h3⟩
  · rw [aLs0012 (aLs0014.1 hp).1, hp]
theorem noms_len (k i : Int) (n : List UInt8) (ts : List Ty) (h : (nomsL ts).length ≤ sizeL ts) : (noms (.mk k n i ts)).length ≤ size (.mk k n i ts) := by
  simp only [noms, size, aLs0011]
  cases (k == 2) <;> simp <;> omega
mutual
theorem noms_le : ∀ t : Ty, (noms t).length ≤ size t
  | .mk k n i ts => noms_len k i n ts (nomsL_le ts)
theorem nomsL_le : ∀ l : List Ty, (nomsL l).length ≤ sizeL l
  | [] => by simp [nomsL]
  | t :: l => by
    have h1 := noms_le t
    have h2 := nomsL_le l
    simp only [nomsL, sizeL, aLs0011]
    omega
end
def CollS (R : Nat → Option (List PV)) (t : Ty) : Prop := ∀ (x : AV), TRep t x → ∀ (q : Nat) (l : List (List UInt8)) (s : Sto) (L : Lim), NS q l s.bs → l.length + size t < 2 ^ 19 → L.ro = 0 → L.n0 = 0 →
  ∃ v s', (v = .tuple [] ∧ ∃ l', Stp q l l' (noms t) s s') ∧ CallE (env R) L 55 [x, .ptr q 0] s v s'
theorem coll_loop {ts : List Ty} {a : AV} (ha : RowsA a (rowsT ts)) (hl : sizeL ts < 2 ^ 30) (ih : ∀ t ∈ ts, CollS R t) {q : Nat} {l0 : List (List UInt8)} {s0 : Sto} {L : Lim} (hro : L.ro = 0) (hn0 : L.n0 = 0) {Post : AV → Sto → Prop} {pre : List (List UInt8)}
    (hP : ∀ l' s', Stp q l0 l' (pre ++ nomsL ts) s0 s' → Post (.tuple []) s') (hlen : l0.length + pre.length + sizeL ts < 2 ^ 19) :
    ∀ (j i : Nat) (l : List (List UInt8)) (s : Sto) (don : List (List UInt8)), i + j = ts.length → Stp q l0 l (pre ++ don) s0 s → don ++ nomsL (ts.drop i) = nomsL ts → don.length + sizeL (ts.drop i) ≤ sizeL ts → P55_2 R L.n0 L.ro L.rt (.ptr q 0) a (I64 ts.length) (I64 i) s Post := by
  have h60 := sizeL_len ts
  intro j
  induction j with
  | zero =>
    intro i l s don hi hs hd _
    refine p55_2 (in_lss ?_)
    have h1 : ¬ ((i : Int) < ts.length) := by omega
    simp only [h1, aLs0080]
    refine co_f ?_
    have h2 : ts.drop i = [] := aLs0024 (by omega)
    rw [h2] at hd
    simp only [nomsL, aLs0056] at hd
    rw [hd] at hs
    exact hP l s hs
  | succ j ihj =>
    intro i l s don hi hs hd hsz
    refine p55_2 (in_lss ?_)
    have h1 : ((i : Int) < ts.length) := by omega
    simp only [h1, aLs0087]
    refine co_t (p55_3 ?_)
    obtain ⟨t, ht⟩ : ∃ t, ts[i]? = some t := ⟨_, aLs0008 (by omega)⟩
    rw [drop_cons ht] at hd hsz
    simp only [nomsL, sizeL] at hd hsz
    refine wIdx_rows ha (row := rowT t) (by omega) (by simpa using rowsT_get ht) (rowT_len t) (by omega) (ld_row (rowT_len t) ?_)
    have hrep := TRep.of_row t
    have hcol := ih t (aLs0013 ht) _ hrep
    obtain ⟨k, n, x, es⟩ := t
    simp only [rowT, aLs0018, aLs0026] at hcol ⊢
    have hst := Stp.push hs.ns [I64 k, SS n, I64 x, .pv (.list (rowsT es))]
    have hlb := hs.len
    simp only [aLs0011] at hlb
    simp [get_app, get_app0, set_app, set_app0, hro]
    obtain ⟨v, s1, ⟨rfl, l1, h3⟩, hc⟩ := hcol q l ⟨s.bs ++ [[I64 k, SS n, I64 x, .pv (.list (rowsT es))]], s.ts⟩ (LFE (env R) 55 L.n0 L.ro L.rt) hst.ns (by omega) hro hn0
    refine ⟨_, _, by simpa [hro] using hc, ?_⟩
    refine p55_4 (in_add (by omega) (by omega) ?_)
    have hall := (hs.trans hst).trans h3
    simp only [aLs0056, aLs0023] at hall
    have := ihj (i + 1) l1 s1 (don ++ noms (.mk k n x es)) (by omega) hall (by rw [aLs0023]; exact hd) (by
      have := noms_le (.mk k n x es)
      rw [aLs0011]
      omega)
    simpa [hro] using this
mutual
theorem coll_spec : ∀ (t : Ty), CollS R t
  | .mk k n i ts => by
    intro x hx q l s L hns hl hro hn0
    obtain ⟨a, rfl, ha⟩ := hx
    simp only [size] at hl
    have ih := colls_spec ts
    suffices H : ∀ Post : AV → Sto → Prop, (∀ l' s', Stp q l l' (noms (.mk k n i ts)) s s' → Post (.tuple []) s') → P55_0 R L.n0 L.ro L.rt (.agg [I64 k, SS n, I64 i, a]) (.ptr q 0) s Post from
      m55 (H _ fun l' s' h => ⟨rfl, l', h⟩)
    intro Post hP
    refine p55_0 ?_
    have hst := Stp.push hns [I64 k, SS n, I64 i, a]
    have g0 : (s.bs ++ [[I64 k, SS n, I64 i, a]])[s.bs.length]? = some [I64 k, SS n, I64 i, a] := by simp
    have tail : ∀ (pre l1 : List (List UInt8)) (s1 : Sto), Stp q l l1 pre s s1 → pre ++ nomsL ts = noms (.mk k n i ts) → pre.length ≤ 1 → s1.bs[s.bs.length]? = some [I64 k, SS n, I64 i, a] → P55_1 R L.n0 L.ro L.rt (.ptr q 0) (.ptr s.bs.length 0) s1 Post := by
      intro pre l1 s1 h1 h2 h3 h4
      refine p55_1 ?_
      simp [h4, ha.lenA, rowsT_len]
      have := coll_loop (R := R) (q := q) (l0 := l) (s0 := s) (L := L) (pre := pre) (Post := Post) ha (by omega) ih hro hn0 (fun l' s' h => hP l' s' (by rw [← h2]; exact h)) (by omega) ts.length 0 l1 s1 [] (by omega) (by simpa using h1) (by simp) (by simp)
      simpa using this
    simp [ha.ok]
    cases hk : (k == 2) with
    | true =>
      have e2 : k = 2 := by simpa using hk
      subst e2
      simp
      refine wCall_do (add_spec (R := R) (w := n) (q := q) (s := ⟨s.bs ++ [[I64 2, SS n, I64 i, a]], s.ts⟩) (l := l) (L := LFE (env R) 55 L.n0 L.ro L.rt) hst.ns (by omega) hro hn0) ?_
      rintro v s1 ⟨rfl, l1, h1⟩
      refine tail [n] l1 s1 ?_ ?_ (by simp) (h1.keep _ _ _ g0)
      · simpa using hst.trans h1
      · simp [noms]
    | false =>
      have e2 : ¬ k = 2 := by simpa using hk
      simp [e2]
      exact tail [] l _ hst (by simp [noms, hk]) (by simp) g0
theorem colls_spec : ∀ (l : List Ty), ∀ t ∈ l, CollS R t
  | [], _, h => by cases h
  | e :: l, a, h => by
    rcases aLs0006.1 h with h' | h'
    · rw [h']
      exact coll_spec e
    · exact colls_spec l a h'
end
theorem WRep.closed {bs : List (List AV)} {l : List (List UInt8)} {x : AV} (h : WRep bs l x) : ∃ x', close bs 0 0 x = some x' ∧ RowsA x' (strRows l) := by
  rcases h with ⟨rfl, rfl⟩ | ⟨id, rfl, hid, hne⟩
  · exact ⟨.capped [], by simp [close], by simp [strRows]; exact .capped _⟩
  · have hpv : ∀ l : List (List UInt8), toPVs (l.map SS) = some (l.map fun w => PV.sc (.string ⟨w.toArray⟩)) := by
      intro l
      induction l with
      | nil => rfl
      | cons w l ih => simp [toPVs, toPV, ih]
    have hrb : ∀ l : List (List UInt8), rowsBy 1 l.length (l.map fun w => PV.sc (.string ⟨w.toArray⟩)) = strRows l := by
      intro l
      induction l with
      | nil => rfl
      | cons w l ih => simp [rowsBy, strRows, ih]
    have hemp : (l.map SS).isEmpty = false := by
      cases l with
      | nil => exact absurd rfl hne
      | cons c r => rfl
    refine ⟨.pv (.list (strRows l)), ?_, .list _⟩
    have ht : ((l.map SS).drop 0).take (l.length * 1) = l.map SS := by
      rw [aLs0040, aLs0019 (by simp)]
    simp only [close, refRows, hid, hemp, ht, hpv, hrb]
    simp
theorem names_spec {t : Ty} (h : size t < 2 ^ 18) {x : AV} (hx : TRep t x) : PureC (env R) 29 [x] fun r => ∃ l, RowsA r (strRows l) ∧ (∀ w, w ∈ l ↔ w ∈ noms t) ∧ l.length ≤ size t := by
  have hc := coll_spec (R := R) t x hx 1 []
  have hle := noms_le t
  generalize hn : noms t = N at *
  generalize size t = z at *
  obtain ⟨k, n, i, ts⟩ := t
  obtain ⟨a, rfl, ha⟩ := hx
  refine e29 (u0 := .agg [I64 k, SS n, I64 i, a]) (by simp [ha.close]) (p29_0 ?_)
  simp [ha.ok]
  refine wCall_do (hc ⟨[[I64 k, SS n, I64 i, a], [.capped []]], []⟩ (LFE (env R) 29 0 0 0) ⟨.capped [], rfl, .inl ⟨rfl, rfl⟩⟩ (by simp; omega) rfl rfl) ?_
  rintro v s1 ⟨rfl, l', h1⟩
  obtain ⟨y, hy, hw⟩ := h1.ns
  obtain ⟨y', hcl, hr⟩ := hw.closed
  simp [hy]
  refine ⟨y', hcl, l', hr, fun w => ?_, ?_⟩
  · rw [h1.mem]
    simp
  · have := h1.len
    simp at this
    omega
end
section
variable {R : Nat → Option (List PV)}
theorem sins_end {l : List (List UInt8)} {x : AV} (hx : RowsA x (strRows l)) (hl : l.length < 2 ^ 40) (v : List UInt8) {Post : AV → Prop} (hP : ∀ r m, RowsA r (strRows m) → (∀ w, w ∈ m ↔ w ∈ l ∨ w = v) → m.length ≤ l.length + 1 → Post r) (q : Nat) (hq : q ≤ l.length) :
    P87_4 R 0 0 0 x (SS v) (I64 q) ⟨[], []⟩ (QP Post) := by
  refine p87_4 ?_
  have hlen : (strRows l).length = l.length := strRows_len l
  have hall : ((strRows l).all fun r => r.length == 1) = true := by
    rw [aLs0015]
    intro r hr
    simpa using strRows_row r hr
  have slc : ∀ (lo hi : Option AV) (a b : Nat) (s : Sto) (K : AV → Prop), optNat 0 lo = some a → optNat l.length hi = some b → a ≤ b → b ≤ l.length → K (.pv (.list (((strRows l).take b).drop a))) → wSlc s 1 x lo hi none K := by
    intro lo hi a b s K h1 h2 h3 h4 hK
    have hr := hx.rowsOf
    rcases hx with rfl | rfl
    · simp only [wSlc, hr, wO, hlen]
      exact ⟨a, b, h1, h2, ⟨h3, h4, hall⟩, hK⟩
    · simp only [wSlc, hr, wO, hlen]
      exact ⟨a, b, h1, h2, ⟨h3, h4, hall⟩, hK⟩
  have hq1 : optNat 0 (some (I64 q)) = some q := by simp [optNat, natOfA]
  have hq2 : optNat l.length (some (I64 q)) = some q := by simp [optNat, natOfA]
  have e0 : ((strRows l).take q).drop 0 = strRows (l.take q) := by simp [strRows, aLs0096]
  have e1 : ((strRows l).take l.length).drop q = strRows (l.drop q) := by
    rw [aLs0019 (by omega)]; simp [strRows, aLs0110]
  simp [wBsl, repl, fillS, wO, toPVs, rowsBy]
  refine slc none (some (I64 q)) 0 q _ _ rfl hq2 (by omega) hq ?_
  rw [e0]
  have hL : ∀ (m : List (List UInt8)), m.length = (strRows m).length := fun m => (strRows_len m).symm
  refine wApp_rows (ts := []) (x := []) (rows := []) (m := strRows (l.take q)) (.inl rfl) (by simp [LFE]) (by simp) strRows_row (by omega) (srcCells_rows (.inl (.list _)) strRows_row) strRows_ok (by rw [← hL]; simp; omega) (by rw [← hL]; simp; omega) ?_
  intro a1 x1 ha1
  simp [wBsl, repl, fillS, wO, toPVs, rowsBy, setCells]
  refine wApp_rows (ts := []) (m := strRows [v]) ha1 (by simp [LFE]) (by simpa using strRows_row) strRows_row (by omega) (srcCells_rows (.inl (.capped _)) strRows_row) strRows_ok (by simp [strRows]; omega) (by simp [strRows]; omega) ?_
  intro a2 x2 ha2
  refine slc (some (I64 q)) none q l.length _ _ hq1 rfl hq (by omega) ?_
  rw [e1]
  have e2 : [] ++ strRows (l.take q) ++ strRows [v] = strRows (l.take q ++ [v]) := by simp [strRows]
  rw [e2] at ha2
  refine wApp_rows (ts := []) (m := strRows (l.drop q)) ha2 (by simp [LFE]) strRows_row strRows_row (by omega) (srcCells_rows (.inl (.list _)) strRows_row) strRows_ok (by simp [strRows]; omega) (by simp [strRows]; omega) ?_
  intro a3 x3 ha3
  have e3 : strRows (l.take q ++ [v]) ++ strRows (l.drop q) = strRows (l.take q ++ [v] ++ l.drop q) := by simp [strRows]
  rw [e3] at ha3
  refine ⟨?_, ?_, ?_⟩
  · refine slc (some (I64 q)) none q l.length _ _ hq1 rfl hq (by omega) ?_
    rw [e1]
    exact eqA_strRows _
  · refine slc (some (I64 q)) none q l.length _ _ hq1 rfl hq (by omega) ?_
    rw [e1]
    exact eqA_strRows _
  · obtain ⟨v', h1, h2⟩ := ha3.rowsO.closed ([] : List (List AV)) 0
    refine ⟨v', h1, hP _ _ h2 (fun w => ?_) (by simp; omega)⟩
    have := insert_mem (l := l) (w := v) (x := w) (i := q)
    simpa using this
theorem sins_mid {l : List (List UInt8)} {x : AV} (hx : RowsA x (strRows l)) (hl : l.length < 2 ^ 40) (v : List UInt8) {Post : AV → Prop} (hP : ∀ r m, RowsA r (strRows m) → (∀ w, w ∈ m ↔ w ∈ l ∨ w = v) → m.length ≤ l.length + 1 → Post r) (q : Nat) (hq : q ≤ l.length) :
    P87_3 R 0 0 0 x (SS v) (I64 q) ⟨[], []⟩ (QP Post) := by
  refine p87_3 ?_
  have hlen : (strRows l).length = l.length := strRows_len l
  by_cases h : q < l.length
  · have h1 : ((q : Int) < l.length) := by omega
    obtain ⟨t, ht⟩ : ∃ t, l[q]? = some t := ⟨_, aLs0008 (by omega)⟩
    simp [-beq_iff_eq, hx.lenA, hlen, h1]
    refine wIdx_rows hx (row := [.sc (.string ⟨t.toArray⟩)]) (by omega) (by simpa using strRows_get ht) rfl (by omega) ?_
    simp [-beq_iff_eq]
    refine ⟨fun h => ?_, fun _ => sins_end hx hl v hP q hq⟩
    have e : t = v := by simpa using h
    simp [QP, QI, hx.close]
    refine hP _ l hx (fun w => ⟨.inl, ?_⟩) (by omega)
    rintro (h | rfl)
    · exact h
    · rw [← e]; exact aLs0013 ht
  · have h1 : ¬ ((q : Int) < l.length) := by omega
    simp [hx.lenA, hlen, h1]
    exact sins_end hx hl v hP q hq
theorem sins_loop {l : List (List UInt8)} {x : AV} (hx : RowsA x (strRows l)) (hl : l.length < 2 ^ 40) (v : List UInt8) {Post : AV → Prop} (hP : ∀ r m, RowsA r (strRows m) → (∀ w, w ∈ m ↔ w ∈ l ∨ w = v) → m.length ≤ l.length + 1 → Post r) :
    ∀ (j q : Nat), q + j = l.length → P87_1 R 0 0 0 x (SS v) (I64 q) ⟨[], []⟩ (QP Post) := by
  have hlen : (strRows l).length = l.length := strRows_len l
  intro j
  induction j with
  | zero =>
    intro q hq
    refine p87_1 ?_
    have h1 : ¬ ((q : Int) < l.length) := by omega
    simp [hx.lenA, hlen, h1]
    exact sins_mid hx hl v hP q (by omega)
  | succ j ih =>
    intro q hq
    refine p87_1 ?_
    have h1 : ((q : Int) < l.length) := by omega
    obtain ⟨t, ht⟩ : ∃ t, l[q]? = some t := ⟨_, aLs0008 (by omega)⟩
    simp [-beq_iff_eq, hx.lenA, hlen, h1]
    refine wIdx_rows hx (row := [.sc (.string ⟨t.toArray⟩)]) (by omega) (by simpa using strRows_get ht) rfl (by omega) ?_
    simp [-beq_iff_eq]
    refine ⟨fun _ => ?_, fun _ => sins_mid hx hl v hP q (by omega)⟩
    refine p87_2 (in_add (by omega) (by omega) ?_)
    have := ih (q + 1) (by omega)
    simpa using this
theorem insertS_spec {l : List (List UInt8)} {x : AV} (hx : RowsA x (strRows l)) (hl : l.length < 2 ^ 40) (v : List UInt8) : PureC (env R) 87 [x, SS v] fun r => ∃ m, RowsA r (strRows m) ∧ (∀ w, w ∈ m ↔ w ∈ l ∨ w = v) ∧ m.length ≤ l.length + 1 := by
  refine e87 (u0 := x) (u1 := SS v) (by simp [hx.close]) (p87_0 ?_)
  exact sins_loop hx hl v (fun r m h1 h2 h3 => ⟨m, h1, h2, h3⟩) l.length 0 (by omega)
def RColl (R : Nat → Option (List PV)) (t : Ty) : Prop := ∀ (x : AV), TRep t x → ∀ (l : List (List UInt8)) (y : AV), RowsA y (strRows l) → l.length + size t < 2 ^ 39 →
  PureC (env R) 64 [x, y] fun r => ∃ m, RowsA r (strRows m) ∧ (∀ w, w ∈ m ↔ w ∈ l ∨ w ∈ noms t) ∧ m.length ≤ l.length + size t
theorem rcoll_loop {k i : Int} {n : List UInt8} {ts : List Ty} {a : AV} (ha : RowsA a (rowsT ts)) (hl : sizeL ts < 2 ^ 39) (ih : ∀ t ∈ ts, RColl R t) {Post : AV → Prop} :
    ∀ (j q : Nat) (l : List (List UInt8)) (y : AV), RowsA y (strRows l) → l.length + sizeL (ts.drop q) < 2 ^ 39 → q + j = ts.length →
      (∀ r m, RowsA r (strRows m) → (∀ w, w ∈ m ↔ w ∈ l ∨ w ∈ nomsL (ts.drop q)) → m.length ≤ l.length + sizeL (ts.drop q) → Post r) →
      P64_2 R 0 0 0 y (.ptr 0 0) (I64 q) ⟨[[I64 k, SS n, I64 i, a]], []⟩ (QP Post) := by
  have h60 := sizeL_len ts
  intro j
  induction j with
  | zero =>
    intro q l y hy hc hi hP
    refine p64_2 ?_
    have h1 : ¬ ((q : Int) < ts.length) := by omega
    simp [ha.lenA, rowsT_len, h1]
    refine p64_4 ?_
    have h2 : ts.drop q = [] := aLs0024 (by omega)
    rw [h2] at hP
    exact ⟨y, hy.close _ _ _, hP y l hy (by simp [nomsL]) (by simp [sizeL])⟩
  | succ j ihj =>
    intro q l y hy hc hi hP
    refine p64_2 ?_
    have h1 : ((q : Int) < ts.length) := by omega
    obtain ⟨t, ht⟩ : ∃ t, ts[q]? = some t := ⟨_, aLs0008 (by omega)⟩
    have hd := drop_cons ht
    rw [hd] at hP hc
    simp only [nomsL, sizeL] at hP hc
    simp [ha.lenA, rowsT_len, h1]
    refine p64_3 ?_
    simp
    refine wIdx_rows ha (row := rowT t) (by omega) (by simpa using rowsT_get ht) (rowT_len t) (by omega) ?_
    have e3 := ih t (aLs0013 ht) _ (TRep.of_row t) l y hy (by omega)
    obtain ⟨k', n', x, es⟩ := t
    simp only [rowT, aLs0018, aLs0026] at e3
    simp [rowT]
    refine wCall_pure e3 ?_
    rintro v ⟨m, hm, hmi, hml⟩
    refine p64_5 (in_add (by omega) (by omega) ?_)
    have := ihj (q + 1) m v hm (by omega) (by omega) (by
      intro r m' h1 h2 h3
      refine hP r m' h1 (fun w => ?_) (by omega)
      rw [h2, hmi, aLs0016]
      exact ⟨fun h => by rcases h with (h | h) | h; exact .inl h; exact .inr (.inl h); exact .inr (.inr h), fun h => by rcases h with h | h | h; exact .inl (.inl h); exact .inl (.inr h); exact .inr h⟩)
    simpa using this
mutual
theorem rcoll_spec : ∀ (t : Ty), RColl R t
  | .mk k n i ts => by
    intro x hx l y hy hl
    obtain ⟨a, rfl, ha⟩ := hx
    simp only [size] at hl
    have ih := rcolls_spec ts
    suffices H : ∀ Post : AV → Prop, (∀ r m, RowsA r (strRows m) → (∀ w, w ∈ m ↔ w ∈ l ∨ w ∈ noms (.mk k n i ts)) → m.length ≤ l.length + size (.mk k n i ts) → Post r) → P64_0 R 0 0 0 (.agg [I64 k, SS n, I64 i, a]) y ⟨[], []⟩ (QP Post) from
      e64 (u0 := .agg [I64 k, SS n, I64 i, a]) (u1 := y) (by simp [ha.close, hy.close]) (H _ fun r m h1 h2 h3 => ⟨m, h1, h2, h3⟩)
    intro Post hP
    refine p64_0 ?_
    simp only [noms, size] at hP
    simp [ha.ok]
    cases hk : (k == 2) with
    | true =>
      have e2 : k = 2 := by simpa using hk
      subst e2
      simp at hP
      simp
      refine wCall_pure (insertS_spec hy (by omega) n) ?_
      rintro v ⟨m, hm, hmi, hml⟩
      refine p64_1 ?_
      refine rcoll_loop ha (by omega) ih ts.length 0 m v hm (by simpa using by omega) (by omega) (fun r m' a b c => hP r m' a (fun w => ?_) (by simp at c; omega))
      rw [b, hmi]
      simp [or_assoc]
    | false =>
      have e2 : ¬ k = 2 := by simpa using hk
      rw [hk] at hP
      simp [e2]
      refine p64_1 ?_
      exact rcoll_loop ha (by omega) ih ts.length 0 l y hy (by simpa using by omega) (by omega) (fun r m' a b c => hP r m' a (by simpa using b) (by simp at c; omega))
theorem rcolls_spec : ∀ (l : List Ty), ∀ t ∈ l, RColl R t
  | [], _, h => by cases h
  | e :: l, a, h => by
    rcases aLs0006.1 h with h' | h'
    · rw [h']
      exact rcoll_spec e
    · exact rcolls_spec l a h'
end
theorem rnames_spec {t : Ty} (h : size t < 2 ^ 38) {x : AV} (hx : TRep t x) : PureC (env R) 38 [x] fun r => ∃ l, RowsA r (strRows l) ∧ (∀ w, w ∈ l ↔ w ∈ noms t) ∧ l.length ≤ size t := by
  have hc := rcoll_spec (R := R) t x hx [] (.capped []) (by simp [strRows]; exact .capped _) (by simp; omega)
  obtain ⟨k, n, i, ts⟩ := t
  obtain ⟨a, rfl, ha⟩ := hx
  refine e38 (u0 := .agg [I64 k, SS n, I64 i, a]) (by simp [ha.close]) (p38_0 ?_)
  simp [ha.ok]
  refine wCall_pure hc ?_
  rintro v ⟨m, hm, hmi, hml⟩
  exact ⟨v, hm.close _ _ _, m, hm, fun w => by rw [hmi]; simp, by simpa using hml⟩
theorem rcontains_loop {l : List (List UInt8)} {w : List UInt8} {y : AV} (hy : RowsA y (strRows l)) (hl : l.length < 2 ^ 60) {Post : AV → Prop} :
    ∀ (j i : Nat), i + j = l.length → Post (BB ((l.drop i).contains w)) → P86_1 R 0 0 0 y (SS w) (I64 i) ⟨[], []⟩ (QP Post) := by
  intro j
  induction j with
  | zero =>
    intro i hi hP
    refine p86_1 ?_
    have h1 : ¬ ((i : Int) < l.length) := by omega
    have h2 : l.drop i = [] := aLs0024 (by omega)
    rw [h2] at hP
    simp [hy.lenA, strRows_len, h1]
    refine p86_3 ?_
    simpa [QP, QI] using hP
  | succ j ih =>
    intro i hi hP
    refine p86_1 ?_
    have h1 : ((i : Int) < l.length) := by omega
    obtain ⟨t, ht⟩ : ∃ t, l[i]? = some t := ⟨_, aLs0008 (by omega)⟩
    rw [drop_cons ht, List.contains_cons] at hP
    simp [hy.lenA, strRows_len, h1]
    refine p86_2 ?_
    refine wIdx_rows hy (row := [.sc (.string ⟨t.toArray⟩)]) (by omega) (by simpa using strRows_get ht) rfl (by omega) ?_
    refine ld_str (st_eql ?_)
    have hcm : (t == w) = (w == t) := by
      rw [aLs0039, aLs0028, aLs0028]
      exact ⟨fun h => h.symm, fun h => h.symm⟩
    rw [hcm]
    cases hb : (w == t) with
    | true =>
      rw [hb, Bool.true_or] at hP
      exact co_t ⟨_, by simp, hP⟩
    | false =>
      rw [hb, aLs0075] at hP
      refine co_f (p86_4 (in_add (by omega) (by omega) ?_))
      have := ih (i + 1) (by omega) hP
      simpa using this
theorem rcontains_spec {l : List (List UInt8)} {w : List UInt8} {y : AV} (hy : RowsA y (strRows l)) (hl : l.length < 2 ^ 60) : PureC (env R) 86 [y, SS w] fun r => r = BB (l.contains w) := by
  refine e86 (u0 := y) (u1 := SS w) (by simp [hy.close]) (p86_0 ?_)
  exact rcontains_loop hy hl l.length 0 (by omega) (by simp)
end
def dig (n : Nat) : List UInt8 := bif decide (n < 10) then [UInt8.ofNat (48 + n)] else bif decide (n < 100) then [UInt8.ofNat (48 + n / 10), UInt8.ofNat (48 + n % 10)] else [UInt8.ofNat (48 + n / 100), UInt8.ofNat (48 + n / 10 % 10), UInt8.ofNat (48 + n % 10)]
def isS (v : Option AV) (l : List UInt8) : Bool := match v with
  | some (.pv (.sc (.string b))) => bytesEq b.data.toList l
  | _ => false
theorem isS_eq {v : Option AV} {l : List UInt8} (h : isS v l = true) : v = some (SS l) := by
  unfold isS at h
  split at h
  · rename_i b
    rw [bytesEq_iff, aLs0028] at h
    subst h
    rfl
  · simp at h
def nameAt (i : Nat) : List UInt8 := bif decide (i < 26) then [UInt8.ofNat (65 + i)] else UInt8.ofNat (65 + i % 26) :: 95 :: dig (i / 26)
def freshI (used : List (List UInt8)) : Nat → Nat → Nat
  | 0, i => i
  | f + 1, i => bif used.contains (nameAt i) then freshI used f (i + 1) else i
def fresh (used : List (List UInt8)) : List UInt8 := nameAt (freshI used 259 0)
theorem u8_inj {a b : Nat} (ha : a < 256) (hb : b < 256) (h : UInt8.ofNat a = UInt8.ofNat b) : a = b := by
  have h1 : (UInt8.ofNat a).toNat = (UInt8.ofNat b).toNat := by rw [h]
  simpa [aLs0113 ha, aLs0113 hb] using h1
theorem nameAt_inj {i j : Nat} (hi : i < 260) (hj : j < 260) (h : nameAt i = nameAt j) : i = j := by
  unfold nameAt at h
  cases bi : decide (i < 26) with
  | true =>
    have hi' : i < 26 := by simpa using bi
    cases bj : decide (j < 26) with
    | true =>
      have hj' : j < 26 := by simpa using bj
      rw [bi, bj] at h
      simp only [aLs0004, aLs0064, aLs0071] at h
      have := u8_inj (by omega) (by omega) h
      omega
    | false =>
      rw [bi, bj] at h
      simp at h
  | false =>
    have hi' : ¬ i < 26 := by simpa using bi
    cases bj : decide (j < 26) with
    | true =>
      rw [bi, bj] at h
      simp at h
    | false =>
      have hj' : ¬ j < 26 := by simpa using bj
      have d : ∀ k, k < 260 → dig (k / 26) = [UInt8.ofNat (48 + k / 26)] := by
        intro k hk
        have : decide (k / 26 < 10) = true := by simp; omega
        simp [dig, this]
      rw [bi, bj] at h
      simp only [aLs0009, d i hi, d j hj, aLs0064, aLs0071, true_and] at h
      have h1 := u8_inj (by omega) (by omega) h.1
      have h2 := u8_inj (by omega) (by omega) h.2
      omega
theorem length_le_of_nodup {α : Type} [DecidableEq α] : ∀ (l m : List α), l.Nodup → (∀ x ∈ l, x ∈ m) → l.length ≤ m.length
  | [], _, _, _ => by simp
  | a :: l, m, h, hs => by
    rw [List.nodup_cons] at h
    have h1 := length_le_of_nodup l (m.erase a) h.2 (fun x hx => (List.mem_erase_of_ne (by rintro rfl; exact h.1 hx)).2 (hs x (aLs0046 _ hx)))
    have h2 : a ∈ m := hs a (by simp)
    have h3 := List.length_erase_of_mem h2
    have h4 := List.length_pos_of_mem h2
    simp only [aLs0010]
    omega
theorem names_nodup : ((List.range 260).map nameAt).Nodup := by
  rw [aLs0119, List.pairwise_map]
  have h := List.nodup_range (n := 260)
  rw [aLs0119] at h
  refine List.Pairwise.imp_of_mem ?_ h
  intro a b ha hb hne e
  exact hne (nameAt_inj (aLs0061.1 ha) (aLs0061.1 hb) e)
theorem freshI_all {used : List (List UInt8)} : ∀ (f i : Nat), used.contains (nameAt (freshI used f i)) = true → freshI used f i = i + f ∧ ∀ j, i ≤ j → j ≤ i + f → used.contains (nameAt j) = true
  | 0, i, h => by
    refine ⟨rfl, fun j h1 h2 => ?_⟩
    have : j = i := by omega
    subst this
    exact h
  | f + 1, i, h => by
    simp only [freshI] at h ⊢
    cases hc : used.contains (nameAt i) with
    | false =>
      rw [hc] at h
      simp only [aLs0009] at h
      rw [hc] at h
      simp at h
    | true =>
      rw [hc] at h
      simp only [aLs0004] at h ⊢
      obtain ⟨h1, h2⟩ := freshI_all f (i + 1) h
      refine ⟨by omega, fun j a b => ?_⟩
      by_cases e : j = i
      · subst e; exact hc
      · exact h2 j (by omega) (by omega)
theorem fresh_new {used : List (List UInt8)} (h : used.length < 260) : used.contains (nameAt (freshI used 259 0)) = false := by
  cases hc : used.contains (nameAt (freshI used 259 0)) with
  | false => rfl
  | true =>
    obtain ⟨_, h2⟩ := freshI_all 259 0 hc
    have := length_le_of_nodup _ used names_nodup (by
      intro x hx
      obtain ⟨j, hj, rfl⟩ := aLs0052.1 hx
      have hj := aLs0061.1 hj
      simpa using h2 j (by omega) (by omega))
    simp at this
    omega
theorem freshI_lt {used : List (List UInt8)} : ∀ (f i : Nat), freshI used f i ≤ i + f
  | 0, i => aLs0005 _
  | f + 1, i => by
    simp only [freshI]
    have := freshI_lt (used := used) f (i + 1)
    cases used.contains (nameAt i) <;> simp <;> omega
theorem nameAt_len {i : Nat} (h : i < 260) : (nameAt i).length ≤ 3 := by
  unfold nameAt
  cases bi : decide (i < 26) with
  | true => simp
  | false =>
    have : decide (i / 26 < 10) = true := by simp; omega
    simp [dig, this]
theorem dig_len (n : Nat) : (dig n).length ≤ 3 := by
  unfold dig
  cases decide (n < 10) <;> cases decide (n < 100) <;> simp
theorem fresh_len {used : List (List UInt8)} : (fresh used).length ≤ 3 := nameAt_len (by have := freshI_lt (used := used) 259 0; omega)
theorem freshI_congr {u v : List (List UInt8)} (h : ∀ w, w ∈ u ↔ w ∈ v) : ∀ f i, freshI u f i = freshI v f i
  | 0, _ => rfl
  | f + 1, i => by
    have e : u.contains (nameAt i) = v.contains (nameAt i) := by
      rw [aLs0039]
      simpa using h (nameAt i)
    simp only [freshI, e, freshI_congr h f (i + 1)]
theorem fresh_congr {u v : List (List UInt8)} (h : ∀ w, w ∈ u ↔ w ∈ v) : fresh u = fresh v := by
  unfold fresh
  rw [freshI_congr h]
section
variable {R : Nat → Option (List PV)}
theorem itoa_all : ((List.range 100).all fun n => isS (pureV (env R) 60 58 [I64 n]) (dig n)) = true := by kernel_rfl
theorem digits_all : ((List.range 100).all fun n => isS (pureV (env R) 60 62 [I64 n]) (dig n)) = true := by kernel_rfl
theorem itoa_spec {n : Nat} (h : n < 100) : PureC (env R) 58 [I64 n] fun r => r = SS (dig n) :=
  ⟨_, rfl, fun L s => CallE.of_some (callN_pure (args' := [I64 n]) (by kernel_rfl) (by kernel_rfl) (by simp [closeL, close]) rfl (isS_eq (aLs0015.1 itoa_all n (aLs0061.2 h))) L s)⟩
theorem digits_spec {n : Nat} (h : n < 100) : PureC (env R) 62 [I64 n] fun r => r = SS (dig n) :=
  ⟨_, rfl, fun L s => CallE.of_some (callN_pure (args' := [I64 n]) (by kernel_rfl) (by kernel_rfl) (by simp [closeL, close]) rfl (isS_eq (aLs0015.1 digits_all n (aLs0061.2 h))) L s)⟩
end
theorem wAnyT_conv {E : Env} {L : Lim} {s : Sto} {lk : Lk} {o : Oper} {K : AV → Sto → Prop} {a b : TypeId} {x : Operand} {k : IntKind} {v u : Value} (ho : o.op = .convert a b x) (ha : E.P.underlying a = some (.int k)) (hx : evL lk x = some (.pv (.sc v)))
    (hq : quick E.P (convert a b v) = some u) (hu : ofVal u = .pv (.sc u)) (h : K (.pv (.sc u)) s) : wAnyT E L s lk o K := by
  refine ⟨.pv (.sc u), s, fun ρ hA => ?_, h⟩
  have ex := evL_eq hA hx
  have h1 : allConc ρ o.op.operands.toList = true := by
    have e : o.op.operands.toList = [x] := by rw [ho]; rfl
    rw [e]
    simp [allConc, ex, conc]
  have h2 : quickOp E ρ o = some (.pv (.sc u)) := by
    have : quick E.P (execOp (fun z => (conc (evalO ρ z)).getD undef) o) = some (.value u) := by
      unfold execOp
      rw [ho]
      simp only [ex, conc, aLs0069]
      exact quick_bind hq rfl
    simp only [quickOp, h1, aLs0045, this, hu]
  unfold opA
  rw [ho]
  simp only [ha, h2]
section
variable {R : Nat → Option (List PV)}
def isR (v : Option Value) (l : List UInt8) : Bool := match v with
  | some (.string b) => bytesEq b.data.toList l
  | _ => false
theorem isR_eq {v : Option Value} {l : List UInt8} (h : isR v l = true) : v = some (.string ⟨l.toArray⟩) := by
  unfold isR at h
  split at h
  · rename_i b
    rw [bytesEq_iff, aLs0028] at h
    subst h
    rfl
  · simp at h
theorem rune_all : ((List.range 26).all fun j => isR (quick Tryz.prog (convert 21 9 (.int .i32 (65 + j)))) [UInt8.ofNat (65 + j)]) = true := by kernel_rfl
theorem rune_one {j : Nat} (h : j < 26) : quick Tryz.prog (convert 21 9 (.int .i32 (65 + j))) = some (.string ⟨[UInt8.ofNat (65 + j)].toArray⟩) := isR_eq (aLs0015.1 rune_all j (aLs0061.2 h))
theorem st_add {a b : List UInt8} {K : AV → Prop} (hl : a.length + b.length < 2 ^ 63) (h : K (SS (a ++ b))) : wStr .add (SS a) (SS b) K := by
  simp only [wStr]
  exact ⟨by simpa using hl, by simpa using h⟩
theorem nt_t {K : AV → Prop} (h : K (BB false)) : wNot (BB true) K := h
theorem nt_f {K : AV → Prop} (h : K (BB true)) : wNot (BB false) K := h
theorem tmod_nat (a b : Nat) : ((a : Int).tmod b) = ((a % b : Nat) : Int) := by
  rw [Int.tmod_eq_emod_of_nonneg (by omega)]
  omega
theorem tdiv_nat (a b : Nat) : ((a : Int).tdiv b) = ((a / b : Nat) : Int) := by
  rw [Int.tdiv_eq_ediv_of_nonneg (by omega)]
  omega
theorem fresh_loop {bs : List (List AV)} {id : Nat} {z b nm sc : AV} {N S : List (List UInt8)} {ts : List (Nat × TypeId)} (hid : bs[id]? = some [z, b, nm]) (hnm : RowsA nm (strRows N)) (hN : N.length < 2 ^ 60) (hS : S.length < 2 ^ 60) {n0 ro rt : Nat}
    (hsc : ∀ w, ∃ r, (r = BB (S.contains w)) ∧ ∀ L s, CallE (env R) L 84 [sc, SS w] s r s) {QR : AV → Sto → Prop} :
    ∀ (f i : Nat), i + f ≤ 259 → (N ++ S).contains (nameAt (freshI (N ++ S) f i)) = false → QR (SS (nameAt (freshI (N ++ S) f i))) ⟨bs, ts⟩ → P59_1 R n0 ro rt (.ptr id 0) sc (I64 i) ⟨bs, ts⟩ QR := by
  have al : alive ⟨bs, ts⟩ id = true := by simp [alive, hid]
  have name : ∀ (i : Nat) (QR : AV → Sto → Prop), i ≤ 259 → P59_2 R n0 ro rt (.ptr id 0) sc (I64 i) (SS (nameAt i)) ⟨bs, ts⟩ QR → P59_1 R n0 ro rt (.ptr id 0) sc (I64 i) ⟨bs, ts⟩ QR := by
    intro i QR hi h
    have hj : i % 26 < 26 := Nat.mod_lt _ (by omega)
    refine p59_1 ?_
    refine ⟨⟨rfl, rfl⟩, by omega, ?_⟩
    have e1 : ((i : Int).tmod 26) = ((i % 26 : Nat) : Int) := tmod_nat i 26
    rw [e1]
    refine in_add (by omega) (by omega) ?_
    have hw : IntKind.i32.wrap (65 + ((i % 26 : Nat) : Int)) = 65 + ((i % 26 : Nat) : Int) := by
      unfold IntKind.wrap
      simp [IntKind.bits, IntKind.signed]
      omega
    simp only [wConvI, hw]
    refine wAnyT_conv (a := 21) (b := 9) (x := .tmp 12) (k := .i32) (v := .int .i32 (65 + ((i % 26 : Nat) : Int))) (by kernel_rfl) (by kernel_rfl) rfl (rune_one hj) rfl ?_
    refine in_geq ?_
    unfold nameAt at h
    cases bi : decide (i < 26) with
    | true =>
      have hi' : i < 26 := by simpa using bi
      have b1 : decide ((i : Int) ≥ 26) = false := by simp; omega
      rw [b1]
      rw [bi, aLs0004] at h
      rw [aLs0113 hi']
      exact co_f h
    | false =>
      have hi' : ¬ i < 26 := by simpa using bi
      have b1 : decide ((i : Int) ≥ 26) = true := by simp; omega
      rw [b1]
      rw [bi, aLs0009] at h
      refine co_t ?_
      refine ⟨⟨rfl, rfl⟩, by omega, ?_⟩
      have e2 : ((i : Int).tdiv 26) = ((i / 26 : Nat) : Int) := tdiv_nat i 26
      rw [e2]
      have e3 : IntKind.i64.wrap ((i / 26 : Nat) : Int) = ((i / 26 : Nat) : Int) := by
        unfold IntKind.wrap
        simp [IntKind.bits, IntKind.signed]
        omega
      simp only [wAri, e3]
      refine wCall_pure (itoa_spec (by omega)) ?_
      rintro r rfl
      have hd := dig_len (i / 26)
      refine st_add (by simp; omega) (st_add (by simp; omega) ?_)
      simpa using h
  have test : ∀ (i : Nat) (QR : AV → Sto → Prop), i ≤ 259 → ((N ++ S).contains (nameAt i) = false → QR (SS (nameAt i)) ⟨bs, ts⟩) → ((N ++ S).contains (nameAt i) = true → P59_3 R n0 ro rt (.ptr id 0) sc (I64 i) ⟨bs, ts⟩ QR) → P59_1 R n0 ro rt (.ptr id 0) sc (I64 i) ⟨bs, ts⟩ QR := by
    intro i QR hi h1 h2
    refine name i QR hi (p59_2 ?_)
    refine ⟨al, al, ?_⟩
    simp only [wLd, hid, wO, wPart, xL, xM, xF, xG]
    simp only [aLs0027, aLs0017, aLs0031]
    refine wCall_pure (containsS_spec hnm hN) ?_
    rintro v rfl
    have hc : (N ++ S).contains (nameAt i) = (N.contains (nameAt i) || S.contains (nameAt i)) := by
      rw [aLs0039]
      simp
    cases c1 : N.contains (nameAt i) with
    | true =>
      rw [hc, c1, Bool.true_or] at h2
      refine nt_t (gk_f (by simp) (gk_f (by simp) (gk_f (by simp) (gk_f (by simp) ?_))))
      exact pk (co_f (h2 rfl))
    | false =>
      rw [hc, c1, aLs0075] at h1 h2
      refine nt_f (gk_t (gk_t (gk_t ?_)))
      obtain ⟨r, rfl, hr⟩ := hsc (nameAt i)
      refine ⟨_, _, hr _ _, ?_⟩
      cases c2 : S.contains (nameAt i) with
      | true => exact gk_t (nt_t (pk (co_f (h2 c2))))
      | false => exact gk_t (nt_f (pk (co_t (h1 c2))))
  intro f
  induction f with
  | zero =>
    intro i hi hc hQ
    simp only [freshI] at hc hQ
    exact test i QR (by omega) (fun _ => hQ) (fun h => by rw [hc] at h; simp at h)
  | succ f ih =>
    intro i hi hc hQ
    refine test i QR (by omega) (fun h => ?_) (fun h => ?_)
    · simp only [freshI, h, aLs0009] at hQ
      exact hQ
    · simp only [freshI, h, aLs0004] at hc hQ
      refine p59_3 (in_add (by omega) (by omega) ?_)
      have := ih (i + 1) (by omega) hc hQ
      simpa using this
theorem rfresh_loop {U : List (List UInt8)} {y : AV} (hy : RowsA y (strRows U)) (hU : U.length < 2 ^ 60) {Post : AV → Prop} :
    ∀ (f i k c : Nat), i = 26 * k + c → c < 26 → i + f ≤ 259 → U.contains (nameAt (freshI U f i)) = false → Post (SS (nameAt (freshI U f i))) → P63_2 R 0 0 0 y (I64 k) (.pv (.sc (.int .u8 ((65 + c : Nat) : Int)))) ⟨[], []⟩ (QP Post) := by
  have name : ∀ (i k c : Nat) (QR : AV → Sto → Prop), i = 26 * k + c → c < 26 → i ≤ 259 → P63_5 R 0 0 0 y (I64 k) (.pv (.sc (.int .u8 ((65 + c : Nat) : Int)))) (SS (nameAt i)) ⟨[], []⟩ QR → P63_2 R 0 0 0 y (I64 k) (.pv (.sc (.int .u8 ((65 + c : Nat) : Int)))) ⟨[], []⟩ QR := by
    intro i k c QR hi hc hi2 h
    refine p63_2 ?_
    refine ⟨⟨rfl, rfl⟩, ?_⟩
    have b0 : decide (((65 + c : Nat) : Int) ≤ 90) = true := by simp; omega
    rw [b0]
    refine co_t (p63_3 ?_)
    have hb : ∀ (s : Sto) (K : AV → Sto → Prop), K (.capped [[.sc (.int .u8 ((65 + c : Nat) : Int))]]) s → wBsl false s 1 [(.pv (.sc (.int .u8 0)))] 1 [(0, 1, .pv (.sc (.int .u8 ((65 + c : Nat) : Int))))] K := by
      intro s K hK
      simp [wBsl, repl, fillS, wO, toPVs, toPV, rowsBy, setCells, cellsOf, okCell]
      exact hK
    refine hb _ _ ?_
    have hsb : sliceBytes ⟨[], []⟩ (.capped [[.sc (.int .u8 ((65 + c : Nat) : Int))]]) = some [UInt8.ofNat (65 + c)] := by
      have e : (((65 + c : Nat) : Int)).toNat = 65 + c := by omega
      generalize ((65 + c : Nat) : Int) = g at e
      generalize 65 + c = d at e
      subst e
      simp [sliceBytes, srcCells, rowsOf, cellBytes]
    simp only [hsb, wO]
    refine in_gtr ?_
    have hk : i / 26 = k := by omega
    have hm : i % 26 = c := by omega
    unfold nameAt at h
    cases bi : decide (i < 26) with
    | true =>
      have hi' : i < 26 := by simpa using bi
      have b1 : decide ((k : Int) > 0) = false := by simp; omega
      rw [b1]
      rw [bi, aLs0004] at h
      have : i = c := by omega
      rw [this] at h
      exact co_f h
    | false =>
      have hi' : ¬ i < 26 := by simpa using bi
      have b1 : decide ((k : Int) > 0) = true := by simp; omega
      rw [b1]
      rw [bi, aLs0009, hk, hm] at h
      refine co_t ?_
      refine wCall_pure (digits_spec (by omega)) ?_
      rintro r rfl
      have hd := dig_len k
      refine st_add (by simp; omega) (st_add (by simp; omega) ?_)
      simpa using h
  have test : ∀ (i k c : Nat), i = 26 * k + c → c < 26 → i ≤ 259 → (U.contains (nameAt i) = false → Post (SS (nameAt i))) → (U.contains (nameAt i) = true → P63_6 R 0 0 0 y (I64 k) (.pv (.sc (.int .u8 ((65 + c : Nat) : Int)))) ⟨[], []⟩ (QP Post)) →
      P63_2 R 0 0 0 y (I64 k) (.pv (.sc (.int .u8 ((65 + c : Nat) : Int)))) ⟨[], []⟩ (QP Post) := by
    intro i k c hi hc hi2 h1 h2
    refine name i k c _ hi hc hi2 (p63_5 ?_)
    refine wCall_pure (rcontains_spec hy hU) ?_
    rintro v rfl
    cases hb : U.contains (nameAt i) with
    | true => exact nt_t (co_f (h2 hb))
    | false => exact nt_f (co_t ⟨_, by simp [close], h1 hb⟩)
  intro f
  induction f with
  | zero =>
    intro i k c hi hc hi2 hcn hP
    simp only [freshI] at hcn hP
    exact test i k c hi hc (by omega) (fun _ => hP) (fun h => by rw [hcn] at h; simp at h)
  | succ f ih =>
    intro i k c hi hc hi2 hcn hP
    refine test i k c hi hc (by omega) (fun h => ?_) (fun h => ?_)
    · simp only [freshI, h, aLs0009] at hP
      exact hP
    · simp only [freshI, h, aLs0004] at hcn hP
      refine p63_6 ?_
      refine ⟨⟨rfl, rfl⟩, ?_⟩
      have e3 : IntKind.u8.wrap (((65 + c : Nat) : Int) + 1) = ((65 + (c + 1) : Nat) : Int) := by
        unfold IntKind.wrap
        simp [IntKind.bits, IntKind.signed]
        omega
      simp only [wAri, e3]
      by_cases h25 : c + 1 < 26
      · exact ih (i + 1) k (c + 1) (by omega) h25 (by omega) hcn hP
      · have e26 : c + 1 = 26 := by omega
        rw [e26]
        refine p63_2 ?_
        refine ⟨⟨rfl, rfl⟩, ?_⟩
        refine co_f (p63_4 (in_add (by omega) (by omega) (p63_1 ?_)))
        have := ih (i + 1) (k + 1) 0 (by omega) (by omega) (by omega) hcn hP
        simpa using this
theorem rfresh_spec {U : List (List UInt8)} {y : AV} (hy : RowsA y (strRows U)) (hU : U.length < 260) : PureC (env R) 63 [y] fun r => r = SS (fresh U) := by
  refine e63 (u0 := y) (by simp [closeL, hy.close]) (p63_0 (p63_1 ?_))
  exact rfresh_loop hy (by omega) 259 0 0 0 rfl (by omega) (by omega) (fresh_new hU) rfl
end
end Go.Proofs.YtmipbilokjkjiaaGreatDoor
