/-
  The reference's converter: fail.
-/
import Derived.Test.YtmipbilokjkjiaaGreatDoorTD
import Derived.Test.YtmipbilokjkjiaaGreatDoorW3
set_option linter.unusedSimpArgs false
set_option linter.unusedVariables false
namespace Go.Proofs.YtmipbilokjkjiaaGreatDoor
open Go.Tel
attribute [local simp] wNew wBox wBoxZ markT wCond wBuild fillS wO setCells wSt wLd wPart LFE wFad alive wInt wStr wGK wGd wPick wExt wLen wSlen wNot wNil okI ceI okB ceB okS ceS okL ceL okC ceC okO ceO okP ceP okG ceG okE ceE okR ceR okF ceF okX ceX okM ceM okN ceN okNf ceNf okNi ceNi ceA roL roC roO leL leC leO tpP tpC tpO clP clC clO clF clA clT clN clL nbP nbC nbO nbN nbL toPVs
def flt (f fo : Int) (o : Int) : List AV := bif f == 0 then [I64 2, I64 o] else [I64 f, I64 fo]
section
variable {R : Nat → Option (List PV)} {bs : List (List AV)} {id : Nat}
theorem mid_get (v : List AV) (m : List (List AV)) (k : Nat) : (bs.set id v ++ m)[bs.length + k]? = m[k]? := by
  have := get_app (bs.set id v) m k
  rwa [List.length_set] at this
theorem take_set (v : List AV) (m : List (List AV)) : (bs.set id v ++ m).take bs.length = bs.set id v := by
  have : (bs.set id v).length = bs.length := by simp
  rw [← this, List.take_left']
  rfl
end
end Go.Proofs.YtmipbilokjkjiaaGreatDoor
/-
  The reference's converter: words.
-/
namespace Go.Proofs.YtmipbilokjkjiaaGreatDoor
open Go.Tel
attribute [local simp] wNew wBox wBoxZ markT wCond wBuild fillS wO setCells wSt wLd wPart LFE wFad alive wInt wStr wGK wGd wPick wExt wLen wSlen wNot wNil okI ceI okB ceB okS ceS okL ceL okC ceC okO ceO okP ceP okG ceG okE ceE okR ceR okF ceF okX ceX okM ceM okN ceN okNf ceNf okNi ceNi ceA roL roC roO leL leC leO tpP tpC tpO clP clC clO clF clA clT clN clL nbP nbC nbO nbN nbL toPVs
abbrev T0 (k : Int) (n : List UInt8) (i : Int) : AV := .agg [I64 k, SS n, I64 i, .capped []]
theorem wIdx_rowsO {s : Sto} {k : Nat} {x : AV} {rows : List (List PV)} {i : Int} {row : List PV} {K : AV → Prop} (hx : RowsO x rows) (h0 : 0 ≤ i) (hr : rows[i.toNat]? = some row) (hl : row.length = k) (hk : 0 < k) (h : K (.eptr row 0)) : wIdx s k x (I64 i) K := by
  have e := hx.rowsOf
  rcases hx with (rfl | rfl) | ⟨t, rfl⟩ <;> simp only [wIdx, e, wO] <;> exact ⟨h0, row, hr, hl, by omega, h⟩
section
variable {R : Nat → Option (List PV)}
theorem any_spec : PureC (env R) 33 [] fun r => r = T0 0 [] 0 := by
  refine e33 (by simp) (p33_0 ?_)
  simp [QP, QI]
theorem never_spec : PureC (env R) 50 [] fun r => r = T0 1 [] 0 := by
  refine e50 (by simp) (p50_0 ?_)
  simp [QP, QI]
theorem var_spec (i : Int) : PureC (env R) 35 [I64 i] fun r => r = T0 5 [] i := by
  refine e35 (u0 := I64 i) (by simp) (p35_0 ?_)
  simp [QP, QI]
def VRes (bs : List (List AV)) (id : Nat) (C : Int ⊕ Ty) (r : AV) (bs' : List (List AV)) : Prop := match C with
  | .inl e => r = T0 0 [] 0 ∧ bs' = bs.set id [I64 2, I64 e]
  | .inr (.mk k n i ts) => bs' = bs ∧ ∃ a, r = .agg [I64 k, SS n, I64 i, a] ∧ RowsO a (rowsT ts)
end
end Go.Proofs.YtmipbilokjkjiaaGreatDoor
/-
  The reference's converter: lists.
-/
namespace Go.Proofs.YtmipbilokjkjiaaGreatDoor
open Go.Tel
attribute [local simp] wNew wBox wBoxZ markT wCond wBuild fillS wO setCells wSt wLd wPart LFE wFad alive wInt wStr wGK wGd wPick wExt wLen wSlen wNot wNil okI ceI okB ceB okS ceS okL ceL okC ceC okO ceO okP ceP okG ceG okE ceE okR ceR okF ceF okX ceX okM ceM okN ceN okNf ceNf okNi ceNi ceA roL roC roO leL leC leO tpP tpC tpO clP clC clO clF clA clT clN clL nbP nbC nbO nbN nbL toPVs
def CRes (bs : List (List AV)) (id : Nat) (C : Int ⊕ Ty) (r : AV) (bs' : List (List AV)) : Prop := match C with
  | .inl e => (∃ k n i a us, r = .agg [I64 k, SS n, I64 i, a] ∧ RowsO a (rowsT us)) ∧ bs' = bs.set id [I64 2, I64 e]
  | .inr (.mk k n i ts) => bs' = bs ∧ ∃ a, r = .agg [I64 k, SS n, I64 i, a] ∧ RowsO a (rowsT ts)
def LRes (bs : List (List AV)) (id : Nat) (C : Int ⊕ List Ty) (r : AV) (bs' : List (List AV)) : Prop := match C with
  | .inl e => (∃ us, RowsO r (rowsT us)) ∧ bs' = bs.set id [I64 2, I64 e]
  | .inr ts => bs' = bs ∧ RowsO r (rowsT ts)
theorem rowsT_four {l : List Ty} : ∀ r ∈ rowsT l, r.length = 4 := by
  intro r hr
  rw [rowsT_eq] at hr
  obtain ⟨z, _, rfl⟩ := List.mem_map.1 hr
  exact rowT_len z
section
variable {R : Nat → Option (List PV)}
def ConvS (R : Nat → Option (List PV)) (c : Nd) (vars : List (List UInt8)) (v : AV) : Prop := ∀ (L : Lim) (bs : List (List AV)) (id : Nat) (ts : List (Nat × TypeId)), L.ro ≤ id → L.rt ≤ ts.length → bs[id]? = some [I64 0, I64 0] → OkS ⟨bs, []⟩ → ∀ x, NRep c x →
  ∃ r s', (∃ y, s'.ts = ts ++ y ∧ CRes bs id (conv c vars) r s'.bs) ∧ CallE (env R) L 47 [.ptr id 0, x, v] ⟨bs, ts⟩ r s'
end
end Go.Proofs.YtmipbilokjkjiaaGreatDoor
/-
  The reference's converter: lists before a fault.
-/
namespace Go.Proofs.YtmipbilokjkjiaaGreatDoor
open Go.Tel
attribute [local simp] wNew wBox wBoxZ markT wCond wBuild fillS wO setCells wSt wLd wPart LFE wFad alive wInt wStr wGK wGd wPick wExt wLen wSlen wNot wNil okI ceI okB ceB okS ceS okL ceL okC ceC okO ceO okP ceP okG ceG okE ceE okR ceR okF ceF okX ceX okM ceM okN ceN okNf ceNf okNi ceNi ceA roL roC roO leL leC leO tpP tpC tpO clP clC clO clF clA clT clN clL nbP nbC nbO nbN nbL toPVs
end Go.Proofs.YtmipbilokjkjiaaGreatDoor
/-
  The reference's converter: the end of a conversion.
-/
namespace Go.Proofs.YtmipbilokjkjiaaGreatDoor
open Go.Tel
attribute [local simp] wNew wBox wBoxZ markT wCond wBuild fillS wO setCells wSt wLd wPart LFE wFad alive wInt wStr wGK wGd wPick wExt wLen wSlen wNot wNil okI ceI okB ceB okS ceS okL ceL okC ceC okO ceO okP ceP okG ceG okE ceE okR ceR okF ceF okX ceX okM ceM okN ceN okNf ceNf okNi ceNi ceA roL roC roO leL leC leO tpP tpC tpO clP clC clO clF clA clT clN clL nbP nbC nbO nbN nbL toPVs
end Go.Proofs.YtmipbilokjkjiaaGreatDoor
/-
  The reference's converter: words and what is no list.
-/
namespace Go.Proofs.YtmipbilokjkjiaaGreatDoor
open Go.Tel
attribute [local simp] wNew wBox wBoxZ markT wCond wBuild fillS wO setCells wSt wLd wPart LFE wFad alive wInt wStr wGK wGd wPick wExt wLen wSlen wNot wNil okI ceI okB ceB okS ceS okL ceL okC ceC okO ceO okP ceP okG ceG okE ceE okR ceR okF ceF okX ceX okM ceM okN ceN okNf ceNf okNi ceNi ceA roL roC roO leL leC leO tpP tpC tpO clP clC clO clF clA clT clN clL nbP nbC nbO nbN nbL toPVs
end Go.Proofs.YtmipbilokjkjiaaGreatDoor
/-
  The reference's converter: malformed nodes.
-/
namespace Go.Proofs.YtmipbilokjkjiaaGreatDoor
open Go.Tel
attribute [local simp] wNew wBox wBoxZ markT wCond wBuild fillS wO setCells wSt wLd wPart LFE wFad alive wInt wStr wGK wGd wPick wExt wLen wSlen wNot wNil okI ceI okB ceB okS ceS okL ceL okC ceC okO ceO okP ceP okG ceG okE ceE okR ceR okF ceF okX ceX okM ceM okN ceN okNf ceNf okNi ceNi ceA roL roC roO leL leC leO tpP tpC tpO clP clC clO clF clA clT clN clL nbP nbC nbO nbN nbL toPVs
end Go.Proofs.YtmipbilokjkjiaaGreatDoor
/-
  The reference's converter: the end of a list.
-/
namespace Go.Proofs.YtmipbilokjkjiaaGreatDoor
open Go.Tel
attribute [local simp] wNew wBox wBoxZ markT wCond wBuild fillS wO setCells wSt wLd wPart LFE wFad alive wInt wStr wGK wGd wPick wExt wLen wSlen wNot wNil okI ceI okB ceB okS ceS okL ceL okC ceC okO ceO okP ceP okG ceG okE ceE okR ceR okF ceF okX ceX okM ceM okN ceN okNf ceNf okNi ceNi ceA roL roC roO leL leC leO tpP tpC tpO clP clC clO clF clA clT clN clL nbP nbC nbO nbN nbL toPVs
section
variable {R : Nat → Option (List PV)}
theorem LRes.rows {bs : List (List AV)} {id : Nat} {C : Int ⊕ List Ty} {r : AV} {bs' : List (List AV)} (h : LRes bs id C r bs') : ∃ rows, RowsO r rows := by
  cases C with
  | inl e => exact ⟨_, h.1.choose_spec⟩
  | inr ts => exact ⟨_, h.2⟩
end
end Go.Proofs.YtmipbilokjkjiaaGreatDoor
/-
  The reference's converter: tuples.
-/
namespace Go.Proofs.YtmipbilokjkjiaaGreatDoor
open Go.Tel
attribute [local simp] wNew wBox wBoxZ markT wCond wBuild fillS wO setCells wSt wLd wPart LFE wFad alive wInt wStr wGK wGd wPick wExt wLen wSlen wNot wNil okI ceI okB ceB okS ceS okL ceL okC ceC okO ceO okP ceP okG ceG okE ceE okR ceR okF ceF okX ceX okM ceM okN ceN okNf ceNf okNi ceNi ceA roL roC roO leL leC leO tpP tpC tpO clP clC clO clF clA clT clN clL nbP nbC nbO nbN nbL toPVs
end Go.Proofs.YtmipbilokjkjiaaGreatDoor
/-
  The reference's converter: unions.
-/
namespace Go.Proofs.YtmipbilokjkjiaaGreatDoor
open Go.Tel
attribute [local simp] wNew wBox wBoxZ markT wCond wBuild fillS wO setCells wSt wLd wPart LFE wFad alive wInt wStr wGK wGd wPick wExt wLen wSlen wNot wNil okI ceI okB ceB okS ceS okL ceL okC ceC okO ceO okP ceP okG ceG okE ceE okR ceR okF ceF okX ceX okM ceM okN ceN okNf ceNf okNi ceNi ceA roL roC roO leL leC leO tpP tpC tpO clP clC clO clF clA clT clN clL nbP nbC nbO nbN nbL toPVs
end Go.Proofs.YtmipbilokjkjiaaGreatDoor
/-
  The reference's converter: nominal types.
-/
namespace Go.Proofs.YtmipbilokjkjiaaGreatDoor
open Go.Tel
attribute [local simp] wNew wBox wBoxZ markT wCond wBuild fillS wO setCells wSt wLd wPart LFE wFad alive wInt wStr wGK wGd wPick wExt wLen wSlen wNot wNil okI ceI okB ceB okS ceS okL ceL okC ceC okO ceO okP ceP okG ceG okE ceE okR ceR okF ceF okX ceX okM ceM okN ceN okNf ceNf okNi ceNi ceA roL roC roO leL leC leO tpP tpC tpO clP clC clO clF clA clT clN clL nbP nbC nbO nbN nbL toPVs
end Go.Proofs.YtmipbilokjkjiaaGreatDoor
/-
  The reference's converter: nominal types with arguments.
-/
namespace Go.Proofs.YtmipbilokjkjiaaGreatDoor
open Go.Tel
attribute [local simp] wNew wBox wBoxZ markT wCond wBuild fillS wO setCells wSt wLd wPart LFE wFad alive wInt wStr wGK wGd wPick wExt wLen wSlen wNot wNil okI ceI okB ceB okS ceS okL ceL okC ceC okO ceO okP ceP okG ceG okE ceE okR ceR okF ceF okX ceX okM ceM okN ceN okNf ceNf okNi ceNi ceA roL roC roO leL leC leO tpP tpC tpO clP clC clO clF clA clT clN clL nbP nbC nbO nbN nbL toPVs
end Go.Proofs.YtmipbilokjkjiaaGreatDoor
/-
  The reference's converter: 'exists'.
-/
namespace Go.Proofs.YtmipbilokjkjiaaGreatDoor
open Go.Tel
attribute [local simp] wNew wBox wBoxZ markT wCond wBuild fillS wO setCells wSt wLd wPart LFE wFad alive wInt wStr wGK wGd wPick wExt wLen wSlen wNot wNil okI ceI okB ceB okS ceS okL ceL okC ceC okO ceO okP ceP okG ceG okE ceE okR ceR okF ceF okX ceX okM ceM okN ceN okNf ceNf okNi ceNi ceA roL roC roO leL leC leO tpP tpC tpO clP clC clO clF clA clT clN clL nbP nbC nbO nbN nbL toPVs
end Go.Proofs.YtmipbilokjkjiaaGreatDoor
/-
  The reference's converter: 'exists' with three arguments.
-/
namespace Go.Proofs.YtmipbilokjkjiaaGreatDoor
open Go.Tel
attribute [local simp] wNew wBox wBoxZ markT wCond wBuild fillS wO setCells wSt wLd wPart LFE wFad alive wInt wStr wGK wGd wPick wExt wLen wSlen wNot wNil okI ceI okB ceB okS ceS okL ceL okC ceC okO ceO okP ceP okG ceG okE ceE okR ceR okF ceF okX ceX okM ceM okN ceN okNf ceNf okNi ceNi ceA roL roC roO leL leC leO tpP tpC tpO clP clC clO clF clA clT clN clL nbP nbC nbO nbN nbL toPVs
end Go.Proofs.YtmipbilokjkjiaaGreatDoor
/-
  The reference's converter: 'exists' with a good name.
-/
namespace Go.Proofs.YtmipbilokjkjiaaGreatDoor
open Go.Tel
attribute [local simp] wNew wBox wBoxZ markT wCond wBuild fillS wO setCells wSt wLd wPart LFE wFad alive wInt wStr wGK wGd wPick wExt wLen wSlen wNot wNil okI ceI okB ceB okS ceS okL ceL okC ceC okO ceO okP ceP okG ceG okE ceE okR ceR okF ceF okX ceX okM ceM okN ceN okNf ceNf okNi ceNi ceA roL roC roO leL leC leO tpP tpC tpO clP clC clO clF clA clT clN clL nbP nbC nbO nbN nbL toPVs
section
variable {R : Nat → Option (List PV)}
theorem exists_rspec {k1 i1 k2 i2 : Int} {n1 n2 : List UInt8} {a1 a2 : AV} {rows1 rows2 : List (List PV)} (h1 : RowsO a1 rows1) (h2 : RowsO a2 rows2) :
    PureC (env R) 32 [.agg [I64 k1, SS n1, I64 i1, a1], .agg [I64 k2, SS n2, I64 i2, a2]] fun r => r = .agg [I64 6, SS [], I64 0, .capped [[.sc (.int .i64 k1), .sc (.string ⟨n1.toArray⟩), .sc (.int .i64 i1), .list rows1], [.sc (.int .i64 k2), .sc (.string ⟨n2.toArray⟩), .sc (.int .i64 i2), .list rows2]]] := by
  obtain ⟨b1, c1, r1⟩ := h1.closed ([] : List (List AV)) 0
  obtain ⟨b2, c2, r2⟩ := h2.closed ([] : List (List AV)) 0
  refine e32 (u0 := .agg [I64 k1, SS n1, I64 i1, b1]) (u1 := .agg [I64 k2, SS n2, I64 i2, b2]) (by simp [c1, c2]) (p32_0 ?_)
  simp [QP, QI, r1.ok, r2.ok, r1.toPV, r2.toPV, wBsl, repl, rowsBy]
theorem wSt_and2 {L : Lim} {s : Sto} {k : Nat} {a x : AV} {K K' : Sto → Prop} (hC : ∀ s, K s → K' s) (h : wSt L s k a x K) : wSt L s k a x K' := by
  unfold wSt at h ⊢
  split at h
  · obtain ⟨cs, h1, h2, h3⟩ := wO_inv h
    simp only [wO, h1]
    exact ⟨h2, hC _ h3⟩
  · exact h
theorem ld_row {E : Env} {s : Sto} {row : List PV} {K : AV → Prop} (hl : row.length = 4) (h : K (.agg (row.map .pv))) : wLd E s (some 4) (.eptr row 0) K := by
  simp only [wLd, wPart, List.length_map, hl, List.drop_zero]
  refine ⟨by omega, ?_⟩
  rw [List.take_of_length_le (by simp [hl])]
  exact h
theorem eqA_self {a : AV} {us : List Ty} (h : RowsO a (rowsT us)) : eqA a a = true := by
  rcases h with (rfl | rfl) | ⟨t, rfl⟩ <;> simp [eqA, eqP, eqPLL_rows]
end
end Go.Proofs.YtmipbilokjkjiaaGreatDoor
/-
  The reference's converter: every node.
-/
namespace Go.Proofs.YtmipbilokjkjiaaGreatDoor
open Go.Tel
end Go.Proofs.YtmipbilokjkjiaaGreatDoor
/-
  FromNode, the reference.
-/
namespace Go.Proofs.YtmipbilokjkjiaaGreatDoor
open Go.Tel
attribute [local simp] wNew wBox wBoxZ markT wCond wBuild fillS wO setCells wSt wLd wPart LFE wFad alive wInt wStr wGK wGd wPick wExt wLen wSlen wNot wNil okI ceI okB ceB okS ceS okL ceL okC ceC okO ceO okP ceP okG ceG okE ceE okR ceR okF ceF okX ceX okM ceM okN ceN okNf ceNf okNi ceNi ceA roL roC roO leL leC leO tpP tpC tpO clP clC clO clF clA clT clN clL nbP nbC nbO nbN nbL toPVs
end Go.Proofs.YtmipbilokjkjiaaGreatDoor
/-
  Streams.
-/
namespace Go.Proofs.YtmipbilokjkjiaaGreatDoor
open Go.Tel
attribute [local simp] wNew wBox wBoxZ markT wCond wBuild fillS wO setCells wSt wLd wPart LFE wFad alive wInt wStr wGK wGd wPick wExt wLen wSlen wNot wNil okI ceI okB ceB okS ceS okL ceL okC ceC okO ceO okP ceP okG ceG okE ceE okR ceR okF ceF okX ceX okM ceM okN ceN okNf ceNf okNi ceNi ceA roL roC roO leL leC leO tpP tpC tpO clP clC clO clF clA clT clN clL nbP nbC nbO nbN nbL toPVs
section
variable {R : Nat → Option (List PV)}
theorem tmod_gt (a : Int) {b : Int} (hb : 0 < b) : -b < a.tmod b := by
  by_cases ha : 0 ≤ a
  · have := Int.tmod_nonneg b ha
    omega
  · have h1 : (-a).tmod b < b := Int.tmod_lt_of_pos _ hb
    have h2 := Int.neg_tmod a b
    omega
theorem mod_spec (a b : Int) (hb : 0 < b) (hb2 : b < 2 ^ 62) : PureC (env R) 18 [I64 a, I64 b] fun v => ∃ r, v = I64 r ∧ 0 ≤ r ∧ r < b := by
  refine e18 rfl (p18_0 ?_)
  have h1 := Int.tmod_lt_of_pos a hb
  have h2 := tmod_gt a hb
  simp only [wInt, wCond]
  refine ⟨⟨trivial, trivial⟩, by omega, ⟨trivial, trivial⟩, fun h => ?_, fun h => ?_⟩
  · simp at h
    refine ⟨⟨trivial, trivial⟩, wAri_fit (by omega) (by omega) (p18_1 ?_)⟩
    exact ⟨_, clP, _, rfl, by omega, by omega⟩
  · simp at h
    refine p18_1 ?_
    exact ⟨_, clP, _, rfl, by omega, by omega⟩
theorem ST_alive {bs : List (List AV)} {id : Nat} {l : Src} {k : Nat} {ts : List (Nat × Nat)} (h : id < bs.length) (m : List (List AV)) : alive ⟨ST bs id l k ++ m, ts⟩ id = true := by
  simp [alive, ST_get h, StB]
theorem keep_all {bs : List (List AV)} {id : Nat} {l : Src} (hB : Base bs id l) {m : List (List AV)} (hm : LocB bs m) (k : Nat) {n : Nat} (hn : n = bs.length + m.length) : (((ST bs id l k ++ m).take n).all (idsLtL n)) = true := by
  rw [List.take_of_length_le (by simp [ST_len]; omega), hn]
  exact hB.all hm k
theorem QM_ST {rr : Bool} {N : Nat} {bs : List (List AV)} {id : Nat} {l : Src} (hB : Base bs id l) {m : List (List AV)} (hm : LocB bs m) {k : Nat} {ts : List (Nat × Nat)} {Post : AV → Sto → Prop} {p : PV} (hN : N = bs.length + m.length)
    (h : Post (.pv p) ⟨ST bs id l k ++ m, ts⟩) : QM rr N Post (.pv p) ⟨ST bs id l k ++ m, ts⟩ := by
  refine QM_pv (keep_all hB hm k hN) ?_
  have : (ST bs id l k ++ m).take N = ST bs id l k ++ m := List.take_of_length_le (by simp [ST_len]; omega)
  simpa [this] using h
theorem next_spec2 {bs : List (List AV)} {id : Nat} {l : Src} (hB : Base bs id l) {m : List (List AV)} (hm : LocB bs m) {k : Nat} (hk : k ≤ l.length) {n : Int} (hn : 0 < n) (hn2 : n < 2 ^ 62) (L : Lim) (hro : L.ro ≤ id) (ts : List (Nat × Nat)) :
    ∃ v s', (∃ r k', v = I64 r ∧ 0 ≤ r ∧ r < n ∧ k ≤ k' ∧ k' ≤ l.length ∧ (r ≠ 0 → k < k') ∧ s' = ⟨ST bs id l k' ++ m, ts⟩) ∧ CallE (env R) L 44 [.ptr id 0, I64 n] ⟨ST bs id l k ++ m, ts⟩ v s' := by
  have hlen := hB.len
  have hlt := hB.lt
  suffices H : ∀ (rr : Bool) (N : Nat) (Post : AV → Sto → Prop), N = bs.length + m.length → (∀ r k', 0 ≤ r → r < n → k ≤ k' → k' ≤ l.length → (r ≠ 0 → k < k') → Post (I64 r) ⟨ST bs id l k' ++ m, ts⟩) → P44_0 R 0 L.ro L.rt (.ptr id 0) (I64 n) ⟨ST bs id l k ++ m, ts⟩ (QM rr N Post) from
    m44 (by simp [noIdL, noId]) (H _ _ _ (by simp [ST_len]) fun r k' h1 h2 h3 h4 h5 => ⟨r, k', rfl, h1, h2, h3, h4, h5, rfl⟩)
  intro rr N Post hN hP
  refine p44_0 ?_
  by_cases h : k = l.length
  · have h1 : ((k : Int) ≥ l.length) := by omega
    simp [ST_get hlt, StB, l.lenC, l.okC, h]
    rw [← h]
    exact QM_ST hB hm hN (hP 0 k (by omega) hn (by omega) (by omega) (by omega))
  · have h1 : ¬ ((l.length : Int) ≤ k) := by omega
    simp [ST_get hlt, StB, l.lenC, l.okC]
    refine ⟨fun h2 => absurd h2 (by omega), fun _ => ?_⟩
    refine p44_1 ?_
    obtain ⟨a, ha⟩ : ∃ a, l.ints[k]? = some a := ⟨_, List.getElem?_eq_getElem (by have : l.length = l.ints.length := rfl; omega)⟩
    simp only [wNil, ST_alive hlt, wFad, wLd, wO, ST_get hlt, wInt]
    refine ⟨trivial, trivial, ?_⟩
    simp only [StB, wPart, wO, List.getElem?_cons_succ, List.getElem?_cons_zero, Nat.zero_add]
    refine ⟨⟨trivial, trivial⟩, wAri_fit (by omega) (by omega) ?_⟩
    simp only [wNil, ST_alive hlt, wFad, wSt, wO, ST_get hlt, LFE, ceI]
    refine ⟨trivial, trivial, ⟨by simp, by simp [StB], hro, by simp [okI], .inl (by omega), by omega⟩, ?_⟩
    have e : (ST bs id l k ++ m).set id (setCells (StB l k) (0 + 1) [I64 (k + 1)]) = ST bs id l (k + 1) ++ m := by
      have : setCells (StB l k) (0 + 1) [I64 (k + 1)] = StB l (k + 1) := by simp [StB, setCells]
      rw [this]
      exact ST_set hlt m
    simp only [e, wNil, ST_alive hlt, wFad, wLd, wO, ST_get hlt]
    refine ⟨trivial, trivial, ?_⟩
    simp only [StB, wPart, wO, List.getElem?_cons_succ, List.getElem?_cons_zero, Nat.zero_add]
    refine ⟨trivial, trivial, ⟨trivial, trivial⟩, wAri_fit (by omega) (by omega) ?_⟩
    refine wIdx_rowsO l.rows (row := [.sc (.int .i64 a)]) (by omega) ?_ rfl (by omega) ?_
    · have : ((k + 1 : Nat) - 1 : Int).toNat = k := by omega
      simp [this, intRows, ha]
    simp only [wLd, wPart, wO, List.map_cons, List.map_nil, List.getElem?_cons_zero]
    refine wCall_pure (mod_spec a n hn hn2) ?_
    rintro v ⟨r, rfl, hr1, hr2⟩
    exact QM_ST hB hm hN (hP r (k + 1) hr1 hr2 (by omega) (by omega) (by omega))
theorem next_spec {bs : List (List AV)} {id : Nat} {l : Src} (hB : Base bs id l) {m : List (List AV)} (hm : LocB bs m) {k : Nat} (hk : k ≤ l.length) {n : Int} (hn : 0 < n) (hn2 : n < 2 ^ 62) (L : Lim) (hro : L.ro ≤ id) (ts : List (Nat × Nat)) :
    ∃ v s', (∃ r k', v = I64 r ∧ 0 ≤ r ∧ r < n ∧ k ≤ k' ∧ k' ≤ l.length ∧ s' = ⟨ST bs id l k' ++ m, ts⟩) ∧ CallE (env R) L 44 [.ptr id 0, I64 n] ⟨ST bs id l k ++ m, ts⟩ v s' := by
  obtain ⟨v, s', ⟨r, k', h1, h2, h3, h4, h5, _, h6⟩, h7⟩ := next_spec2 (R := R) hB hm hk hn hn2 L hro ts
  exact ⟨v, s', ⟨r, k', h1, h2, h3, h4, h5, h6⟩, h7⟩
theorem new_spec' (l : Src) (L : Lim) (s : Sto) : ∃ v s', (v = .ptr s.bs.length 0 ∧ s' = ⟨s.bs ++ [StB l 0], s.ts⟩) ∧ CallE (env R) L 8 [l.cell] s v s' := by
  refine m8 (p8_0 ?_)
  simp [StB, l.rows.cells, l.okC]
theorem new_spec (l : List Int) (L : Lim) (s : Sto) : ∃ v s', (v = .ptr s.bs.length 0 ∧ s' = ⟨s.bs ++ [StB (.of l) 0], s.ts⟩) ∧ CallE (env R) L 8 [.pv (.list (intRows l))] s v s' := by
  refine m8 (p8_0 ?_)
  simp [StB, Src.of]
end
end Go.Proofs.YtmipbilokjkjiaaGreatDoor
/-
  Generated nodes: AnyNode.
-/
namespace Go.Proofs.YtmipbilokjkjiaaGreatDoor
open Go.Tel
attribute [local simp] wNew wBox wBoxZ markT wCond wBuild fillS wO setCells wSt wLd wPart LFE wFad alive wInt wStr wGK wGd wPick wExt wLen wSlen wNot wNil okI ceI okB ceB okS ceS okL ceL okC ceC okO ceO okP ceP okG ceG okE ceE okR ceR okF ceF okX ceX okM ceM okN ceN okNf ceNf okNi ceNi ceA roL roC roO leL leC leO tpP tpC tpO clP clC clO clF clA clT clN clL nbP nbC nbO nbN nbL toPVs
theorem gk_t {b : Bool} {s : Sto} {W : (AV → Sto → Prop) → Prop} {K : AV → Sto → Prop} (h : W K) : wGK (BB b) b s W K := ⟨fun _ => h, fun h => absurd rfl h⟩
theorem gk_f {b c : Bool} {s : Sto} {W : (AV → Sto → Prop) → Prop} {K : AV → Sto → Prop} (hn : b ≠ c) (h : K (.tuple []) s) : wGK (BB b) c s W K := ⟨fun h => absurd h hn, fun _ => h⟩
theorem co_t {A B : Prop} (h : A) : wCond (BB true) A B := ⟨fun _ => h, fun h => by cases h⟩
theorem co_f {A B : Prop} (h : B) : wCond (BB false) A B := ⟨fun h => (by cases h), fun _ => h⟩
theorem pk {c : Bool} {a b : AV} {K : AV → Prop} (h : K (bif c then a else b)) : wPick (BB c) a b K := h
theorem in_eql {a b : Int} {K : AV → Prop} (h : K (BB (a == b))) : wInt .i64 .eql (I64 a) (I64 b) K := ⟨⟨rfl, rfl⟩, h⟩
theorem in_neq {a b : Int} {K : AV → Prop} (h : K (BB (a != b))) : wInt .i64 .neq (I64 a) (I64 b) K := ⟨⟨rfl, rfl⟩, h⟩
theorem in_lss {a b : Int} {K : AV → Prop} (h : K (BB (a < b))) : wInt .i64 .lss (I64 a) (I64 b) K := ⟨⟨rfl, rfl⟩, h⟩
theorem in_leq {a b : Int} {K : AV → Prop} (h : K (BB (a ≤ b))) : wInt .i64 .leq (I64 a) (I64 b) K := ⟨⟨rfl, rfl⟩, h⟩
theorem in_gtr {a b : Int} {K : AV → Prop} (h : K (BB (a > b))) : wInt .i64 .gtr (I64 a) (I64 b) K := ⟨⟨rfl, rfl⟩, h⟩
theorem in_geq {a b : Int} {K : AV → Prop} (h : K (BB (a ≥ b))) : wInt .i64 .geq (I64 a) (I64 b) K := ⟨⟨rfl, rfl⟩, h⟩
theorem in_add {a b : Int} {K : AV → Prop} (h1 : -(2 ^ 63) ≤ a + b) (h2 : a + b < 2 ^ 63) (h : K (I64 (a + b))) : wInt .i64 .add (I64 a) (I64 b) K := ⟨⟨rfl, rfl⟩, wAri_fit h1 h2 h⟩
theorem in_sub {a b : Int} {K : AV → Prop} (h1 : -(2 ^ 63) ≤ a - b) (h2 : a - b < 2 ^ 63) (h : K (I64 (a - b))) : wInt .i64 .sub (I64 a) (I64 b) K := ⟨⟨rfl, rfl⟩, wAri_fit h1 h2 h⟩
theorem bd_of {z ps cs : _} {K : AV → Prop} (hf : fillS z ps = some cs) (h : K (.agg cs)) : wBuild z ps K := by
  simp only [wBuild, hf, wO]
  exact h
section
variable {bs : List (List AV)} {id : Nat} {l : Src}
theorem loc_get (k : Nat) (m r : List (List AV)) (j : Nat) : (ST bs id l k ++ (m ++ r))[bs.length + m.length + j]? = r[j]? := by
  have := get_app (ST bs id l k ++ m) r j
  simpa [ST_len] using this
theorem loc_get0 (k : Nat) (m r : List (List AV)) : (ST bs id l k ++ (m ++ r))[bs.length + m.length]? = r[0]? := loc_get k m r 0
theorem loc_set (k : Nat) (m r : List (List AV)) (j : Nat) (v : List AV) : (ST bs id l k ++ (m ++ r)).set (bs.length + m.length + j) v = ST bs id l k ++ (m ++ r.set j v) := by
  have := set_app (ST bs id l k ++ m) r j v
  simpa [ST_len] using this
theorem loc_set0 (k : Nat) (m r : List (List AV)) (v : List AV) : (ST bs id l k ++ (m ++ r)).set (bs.length + m.length) v = ST bs id l k ++ (m ++ r.set 0 v) := loc_set k m r 0 v
theorem locB_push {m : List (List AV)} (hm : LocB bs m) {r : List (List AV)} (hr : ∀ b ∈ r, idsLtL (bs.length + m.length + r.length) b = true) : LocB bs (m ++ r) := by
  intro b hb
  rcases List.mem_append.1 hb with h | h
  · exact idsLtL_mono (by simp) b (hm b h)
  · have := hr b h
    simpa [Nat.add_assoc] using this
def NRepO (v : Nd) (x : AV) : Prop := match v with
  | .mk k s cs o => ∃ a, x = .agg [I64 k, SS s, a, I64 o] ∧ RowsO a (rowsN cs)
theorem NRepO.closed {v : Nd} {x : AV} (h : NRepO v x) : ∃ x', close [] 0 0 x = some x' ∧ NRep v x' ∧ close [] 0 0 x' = some x' := by
  obtain ⟨k, s, cs, o⟩ := v
  obtain ⟨a, rfl, ha⟩ := h
  obtain ⟨a', h1, h2⟩ := ha.closed [] 0
  exact ⟨.agg [I64 k, SS s, a', I64 o], by simp [h1], ⟨a', rfl, h2⟩, by simp [h2.close]⟩
variable {R : Nat → Option (List PV)}
def NdB (B g : Nat) (n : Nd) : Prop := okNd n ∧ fewN n ∧ nsize n ≤ B ∧ grow n ≤ g
theorem NdB.leaf {B g : Nat} {k o : Int} {s : List UInt8} (hs : s.length < 2 ^ 60) (hB : 0 < B) : NdB B g (.mk k s [] o) := by
  simp [NdB, okNd, okNds, fewN, fewNs, nsize, nsizeL, grow, growL, hs]
  omega
theorem strRow_get {l : List (List UInt8)} : strRow l = [.list (strRows l)] := rfl
theorem ld_glob {g : Nat} {T : List (List UInt8)} (hG : (env R).G g = some (strRow T)) {s : Sto} {K : AV → Prop} (h : K (.pv (.list (strRows T)))) : wLd (env R) s none (.gptr g 0) K := by
  simp [wLd, hG, wO, wPart, strRow_get]
  exact h
theorem eq_strRows : ∀ l : List (List UInt8), eqPLL (strRows l) (strRows l) = true
  | [] => by simp [strRows, eqPLL]
  | s :: l => by
    have := eq_strRows l
    simp only [strRows, List.map_cons, eqPLL, eqPL, eqP, eqV_str, Bool.true_and, Bool.and_true] at this ⊢
    exact this
theorem wSt_and {L : Lim} {s : Sto} {k : Nat} {a x : AV} {K : Sto → Prop} {C : Prop} (hC : C) (h : wSt L s k a x K) : wSt L s k a x fun s => C ∧ K s := wSt_and2 (fun _ h => ⟨hC, h⟩) h
theorem ld_str {s : Sto} {w : List UInt8} {K : AV → Prop} (h : K (SS w)) : wLd (env R) s none (.eptr [.sc (.string ⟨w.toArray⟩)] 0) K := by
  simpa [wLd, wPart, wO] using h
theorem idx_str {T : List (List UInt8)} {r : Int} {w : List UInt8} (h0 : 0 ≤ r) (hw : T[r.toNat]? = some w) {s : Sto} {K : AV → Prop} (h : K (.eptr [.sc (.string ⟨w.toArray⟩)] 0)) : wIdx s 1 (.pv (.list (strRows T))) (I64 r) K :=
  wIdx_rows (.list _) (row := [.sc (.string ⟨w.toArray⟩)]) h0 (by simp [strRows, hw]) rfl (by omega) h
theorem eqA_strRows (T : List (List UInt8)) : eqA (.pv (.list (strRows T))) (.pv (.list (strRows T))) = true := by simp [eqA, eqP, eq_strRows]
end
def strT : List (List UInt8) := [[], [97, 32, 98], [113, 117, 111, 116, 101, 32, 34, 32, 97, 110, 100, 32, 92], [126], [40, 110, 111, 116, 32, 97, 32, 108, 105, 115, 116, 41], [59, 32, 110, 111, 32, 99, 111, 109, 109, 101, 110, 116]]
def Short (T : List (List UInt8)) : Prop := (∀ s ∈ T, s.length < 2 ^ 60) ∧ 0 < T.length ∧ T.length < 2 ^ 60
theorem ApdN.eqA {lo : Nat} {ts : List (Nat × Nat)} {k : Nat} {a : AV} {es : List Nd} (h : Apd lo ts k a (rowsN es)) : Tel.eqA a a = true := by
  rcases h with rfl | ⟨t, rfl, _⟩
  · simp [Tel.eqA, eqPLL_rowsN]
  · simp [Tel.eqA, eqPLL_rowsN]
end Go.Proofs.YtmipbilokjkjiaaGreatDoor
