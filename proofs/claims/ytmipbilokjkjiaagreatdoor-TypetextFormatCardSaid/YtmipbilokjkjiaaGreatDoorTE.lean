/-
  The reference's converter: fail.
-/
import Derived.Test.YtmipbilokjkjiaaGreatDoorTD
import Derived.Test.YtmipbilokjkjiaaGreatDoorW3
set_option linter.unusedSimpArgs false
set_option linter.unusedVariables false
namespace Go.Proofs.YtmipbilokjkjiaaGreatDoor
open Go.Tel
attribute [local simp] wNew wBox wBoxZ markT wCond wBuild fillS wO setCells wSt wLd wPart LFE wFad alive wInt wStr wGK wGd wPick wExt wLen wSlen wNot wNil okI ceI okB ceB okS ceS okL ceL okC ceC okO ceO okP ceP okG ceG okE ceE okR ceR okF ceF okX ceX okM ceM okN ceN okNf ceNf okNi ceNi ceA roL roC roO leL leC leO tpP tpC tpO clP clC clO clF clA clT clN clL nbP nbC nbO nbN nbL toPVs
def flt (f fo : Int) (o : Int) : List AV := bif f == 0 then [I64 2, I64 o] else [I64 f, I64 fo]
section
variable {R : Nat → Option (List PV)} {bs : List (List AV)} {id : Nat}
theorem mid_get (v : List AV) (m : List (List AV)) (k : Nat) : (bs.set id v ++ m)[bs.length + k]? = m[k]? := by
  have := get_app (bs.set id v) m k
  rwa [List.length_set] at this
theorem take_set (v : List AV) (m : List (List AV)) : (bs.set id v ++ m).take bs.length = bs.set id v := by
  have : (bs.set id v).length = bs.length := by simp
  rw [← this, List.take_left']
  rfl
end
end Go.Proofs.YtmipbilokjkjiaaGreatDoor
/-
  The reference's converter: words.
-/
namespace Go.Proofs.YtmipbilokjkjiaaGreatDoor
open Go.Tel
attribute [local simp] wNew wBox wBoxZ markT wCond wBuild fillS wO setCells wSt wLd wPart LFE wFad alive wInt wStr wGK wGd wPick wExt wLen wSlen wNot wNil okI ceI okB ceB okS ceS okL ceL okC ceC okO ceO okP ceP okG ceG okE ceE okR ceR okF ceF okX ceX okM ceM okN ceN okNf ceNf okNi ceNi ceA roL roC roO leL leC leO tpP tpC tpO clP clC clO clF clA clT clN clL nbP nbC nbO nbN nbL toPVs
abbrev T0 (k : Int) (n : List UInt8) (i : Int) : AV := .agg [I64 k, SS n, I64 i, .capped []]
theorem wIdx_rowsO {s : Sto} {k : Nat} {x : AV} {rows : List (List PV)} {i : Int} {row : List PV} {K : AV → Prop} (hx : RowsO x rows) (h0 : 0 ≤ i) (hr : rows[i.toNat]? = some row) (hl : row.length = k) (hk : 0 < k) (h : K (.eptr row 0)) : wIdx s k x (I64 i) K := by
  have e := hx.rowsOf
  rcases hx with (rfl | rfl) | ⟨t, rfl⟩ <;> simp only [wIdx, e, wO] <;> exact ⟨h0, row, hr, hl, by omega, h⟩
section
variable {R : Nat → Option (List PV)}
theorem any_spec : PureC (env R) 33 [] fun r => r = T0 0 [] 0 := by
  refine e33 (by simp) (p33_0 ?_)
  simp [QP, QI]
theorem never_spec : PureC (env R) 50 [] fun r => r = T0 1 [] 0 := by
  refine e50 (by simp) (p50_0 ?_)
  simp [QP, QI]
theorem var_spec (i : Int) : PureC (env R) 35 [I64 i] fun r => r = T0 5 [] i := by
  refine e35 (u0 := I64 i) (by simp) (p35_0 ?_)
  simp [QP, QI]
def VRes (bs : List (List AV)) (id : Nat) (C : Int ⊕ Ty) (r : AV) (bs' : List (List AV)) : Prop := match C with
  | .inl e => r = T0 0 [] 0 ∧ bs' = bs.set id [I64 2, I64 e]
  | .inr (.mk k n i ts) => bs' = bs ∧ ∃ a, r = .agg [I64 k, SS n, I64 i, a] ∧ RowsO a (rowsT ts)
end
end Go.Proofs.YtmipbilokjkjiaaGreatDoor
/-
  The reference's converter: lists.
-/
namespace Go.Proofs.YtmipbilokjkjiaaGreatDoor
open Go.Tel
attribute [local simp] wNew wBox wBoxZ markT wCond wBuild fillS wO setCells wSt wLd wPart LFE wFad alive wInt wStr wGK wGd wPick wExt wLen wSlen wNot wNil okI ceI okB ceB okS ceS okL ceL okC ceC okO ceO okP ceP okG ceG okE ceE okR ceR okF ceF okX ceX okM ceM okN ceN okNf ceNf okNi ceNi ceA roL roC roO leL leC leO tpP tpC tpO clP clC clO clF clA clT clN clL nbP nbC nbO nbN nbL toPVs
def CRes (bs : List (List AV)) (id : Nat) (C : Int ⊕ Ty) (r : AV) (bs' : List (List AV)) : Prop := match C with
  | .inl e => (∃ k n i a us, r = .agg [I64 k, SS n, I64 i, a] ∧ RowsO a (rowsT us)) ∧ bs' = bs.set id [I64 2, I64 e]
  | .inr (.mk k n i ts) => bs' = bs ∧ ∃ a, r = .agg [I64 k, SS n, I64 i, a] ∧ RowsO a (rowsT ts)
def LRes (bs : List (List AV)) (id : Nat) (C : Int ⊕ List Ty) (r : AV) (bs' : List (List AV)) : Prop := match C with
  | .inl e => (∃ us, RowsO r (rowsT us)) ∧ bs' = bs.set id [I64 2, I64 e]
  | .inr ts => bs' = bs ∧ RowsO r (rowsT ts)
theorem rowsT_four {l : List Ty} : ∀ r ∈ rowsT l, r.length = 4 := by
  intro r hr
  rw [rowsT_eq] at hr
  obtain ⟨z, _, rfl⟩ := List.mem_map.1 hr
  exact rowT_len z
section
variable {R : Nat → Option (List PV)}
def ConvS (R : Nat → Option (List PV)) (c : Nd) (vars : List (List UInt8)) (v : AV) : Prop := ∀ (L : Lim) (bs : List (List AV)) (id : Nat) (ts : List (Nat × TypeId)), L.ro ≤ id → L.rt ≤ ts.length → bs[id]? = some [I64 0, I64 0] → OkS ⟨bs, []⟩ → ∀ x, NRep c x →
  ∃ r s', (∃ y, s'.ts = ts ++ y ∧ CRes bs id (conv c vars) r s'.bs) ∧ CallE (env R) L 47 [.ptr id 0, x, v] ⟨bs, ts⟩ r s'
end
end Go.Proofs.YtmipbilokjkjiaaGreatDoor
/-
  The reference's converter: lists before a fault.
-/
namespace Go.Proofs.YtmipbilokjkjiaaGreatDoor
open Go.Tel
attribute [local simp] wNew wBox wBoxZ markT wCond wBuild fillS wO setCells wSt wLd wPart LFE wFad alive wInt wStr wGK wGd wPick wExt wLen wSlen wNot wNil okI ceI okB ceB okS ceS okL ceL okC ceC okO ceO okP ceP okG ceG okE ceE okR ceR okF ceF okX ceX okM ceM okN ceN okNf ceNf okNi ceNi ceA roL roC roO leL leC leO tpP tpC tpO clP clC clO clF clA clT clN clL nbP nbC nbO nbN nbL toPVs
end Go.Proofs.YtmipbilokjkjiaaGreatDoor
/-
  The reference's converter: the end of a conversion.
-/
namespace Go.Proofs.YtmipbilokjkjiaaGreatDoor
open Go.Tel
attribute [local simp] wNew wBox wBoxZ markT wCond wBuild fillS wO setCells wSt wLd wPart LFE wFad alive wInt wStr wGK wGd wPick wExt wLen wSlen wNot wNil okI ceI okB ceB okS ceS okL ceL okC ceC okO ceO okP ceP okG ceG okE ceE okR ceR okF ceF okX ceX okM ceM okN ceN okNf ceNf okNi ceNi ceA roL roC roO leL leC leO tpP tpC tpO clP clC clO clF clA clT clN clL nbP nbC nbO nbN nbL toPVs
end Go.Proofs.YtmipbilokjkjiaaGreatDoor
/-
  The reference's converter: words and what is no list.
-/
namespace Go.Proofs.YtmipbilokjkjiaaGreatDoor
open Go.Tel
attribute [local simp] wNew wBox wBoxZ markT wCond wBuild fillS wO setCells wSt wLd wPart LFE wFad alive wInt wStr wGK wGd wPick wExt wLen wSlen wNot wNil okI ceI okB ceB okS ceS okL ceL okC ceC okO ceO okP ceP okG ceG okE ceE okR ceR okF ceF okX ceX okM ceM okN ceN okNf ceNf okNi ceNi ceA roL roC roO leL leC leO tpP tpC tpO clP clC clO clF clA clT clN clL nbP nbC nbO nbN nbL toPVs
end Go.Proofs.YtmipbilokjkjiaaGreatDoor
/-
  The reference's converter: malformed nodes.
-/
namespace Go.Proofs.YtmipbilokjkjiaaGreatDoor
open Go.Tel
attribute [local simp] wNew wBox wBoxZ markT wCond wBuild fillS wO setCells wSt wLd wPart LFE wFad alive wInt wStr wGK wGd wPick wExt wLen wSlen wNot wNil okI ceI okB ceB okS ceS okL ceL okC ceC okO ceO okP ceP okG ceG okE ceE okR ceR okF ceF okX ceX okM ceM okN ceN okNf ceNf okNi ceNi ceA roL roC roO leL leC leO tpP tpC tpO clP clC clO clF clA clT clN clL nbP nbC nbO nbN nbL toPVs
end Go.Proofs.YtmipbilokjkjiaaGreatDoor
/-
  The reference's converter: the end of a list.
-/
namespace Go.Proofs.YtmipbilokjkjiaaGreatDoor
open Go.Tel
attribute [local simp] wNew wBox wBoxZ markT wCond wBuild fillS wO setCells wSt wLd wPart LFE wFad alive wInt wStr wGK wGd wPick wExt wLen wSlen wNot wNil okI ceI okB ceB okS ceS okL ceL okC ceC okO ceO okP ceP okG ceG okE ceE okR ceR okF ceF okX ceX okM ceM okN ceN okNf ceNf okNi ceNi ceA roL roC roO leL leC leO tpP tpC tpO clP clC clO clF clA clT clN clL nbP nbC nbO nbN nbL toPVs
section
variable {R : Nat → Option (List PV)}
theorem LRes.rows {bs : List (List AV)} {id : Nat} {C : Int ⊕ List Ty} {r : AV} {bs' : List (List AV)} (h : LRes bs id C r bs') : ∃ rows, RowsO r rows := by
  cases C with
  | inl e => exact ⟨_, h.1.choose_spec⟩
  | inr ts => exact ⟨_, h.2⟩
end
end Go.Proofs.YtmipbilokjkjiaaGreatDoor
/-
  The reference's converter: tuples.
-/
namespace Go.Proofs.YtmipbilokjkjiaaGreatDoor
open Go.Tel
attribute [local simp] wNew wBox wBoxZ markT wCond wBuild fillS wO setCells wSt wLd wPart LFE wFad alive wInt wStr wGK wGd wPick wExt wLen wSlen wNot wNil okI ceI okB ceB okS ceS okL ceL okC ceC okO ceO okP ceP okG ceG okE ceE okR ceR okF ceF okX ceX okM ceM okN ceN okNf ceNf okNi ceNi ceA roL roC roO leL leC leO tpP tpC tpO clP clC clO clF clA clT clN clL nbP nbC nbO nbN nbL toPVs
end Go.Proofs.YtmipbilokjkjiaaGreatDoor
/-
  The reference's converter: unions.
-/
namespace Go.Proofs.YtmipbilokjkjiaaGreatDoor
open Go.Tel
attribute [local simp] wNew wBox wBoxZ markT wCond wBuild fillS wO setCells wSt wLd wPart LFE wFad alive wInt wStr wGK wGd wPick wExt wLen wSlen wNot wNil okI ceI okB ceB okS ceS okL ceL okC ceC okO ceO okP ceP okG ceG okE ceE okR ceR okF ceF okX ceX okM ceM okN ceN okNf ceNf okNi ceNi ceA roL roC roO leL leC leO tpP tpC tpO clP clC clO clF clA clT clN clL nbP nbC nbO nbN nbL toPVs
end Go.Proofs.YtmipbilokjkjiaaGreatDoor
/-
  The reference's converter: nominal types.
-/
namespace Go.Proofs.YtmipbilokjkjiaaGreatDoor
open Go.Tel
attribute [local simp] wNew wBox wBoxZ markT wCond wBuild fillS wO setCells wSt wLd wPart LFE wFad alive wInt wStr wGK wGd wPick wExt wLen wSlen wNot wNil okI ceI okB ceB okS ceS okL ceL okC ceC okO ceO okP ceP okG ceG okE ceE okR ceR okF ceF okX ceX okM ceM okN ceN okNf ceNf okNi ceNi ceA roL roC roO leL leC leO tpP tpC tpO clP clC clO clF clA clT clN clL nbP nbC nbO nbN nbL toPVs
end Go.Proofs.YtmipbilokjkjiaaGreatDoor
/-
  The reference's converter: nominal types with arguments.
-/
namespace Go.Proofs.YtmipbilokjkjiaaGreatDoor
open Go.Tel
attribute [local simp] wNew wBox wBoxZ markT wCond wBuild fillS wO setCells wSt wLd wPart LFE wFad alive wInt wStr wGK wGd wPick wExt wLen wSlen wNot wNil okI ceI okB ceB okS ceS okL ceL okC ceC okO ceO okP ceP okG ceG okE ceE okR ceR okF ceF okX ceX okM ceM okN ceN okNf ceNf okNi ceNi ceA roL roC roO leL leC leO tpP tpC tpO clP clC clO clF clA clT clN clL nbP nbC nbO nbN nbL toPVs
end Go.Proofs.YtmipbilokjkjiaaGreatDoor
/-
  The reference's converter: 'exists'.
-/
namespace Go.Proofs.YtmipbilokjkjiaaGreatDoor
open Go.Tel
attribute [local simp] wNew wBox wBoxZ markT wCond wBuild fillS wO setCells wSt wLd wPart LFE wFad alive wInt wStr wGK wGd wPick wExt wLen wSlen wNot wNil okI ceI okB ceB okS ceS okL ceL okC ceC okO ceO okP ceP okG ceG okE ceE okR ceR okF ceF okX ceX okM ceM okN ceN okNf ceNf okNi ceNi ceA roL roC roO leL leC leO tpP tpC tpO clP clC clO clF clA clT clN clL nbP nbC nbO nbN nbL toPVs
end Go.Proofs.YtmipbilokjkjiaaGreatDoor
/-
  The reference's converter: 'exists' with three arguments.
-/
namespace Go.Proofs.YtmipbilokjkjiaaGreatDoor
open Go.Tel
attribute [local simp] wNew wBox wBoxZ markT wCond wBuild fillS wO setCells wSt wLd wPart LFE wFad alive wInt wStr wGK wGd wPick wExt wLen wSlen wNot wNil okI ceI okB ceB okS ceS okL ceL okC ceC okO ceO okP ceP okG ceG okE ceE okR ceR okF ceF okX ceX okM ceM okN ceN okNf ceNf okNi ceNi ceA roL roC roO leL leC leO tpP tpC tpO clP clC clO clF clA clT clN clL nbP nbC nbO nbN nbL toPVs
end Go.Proofs.YtmipbilokjkjiaaGreatDoor
/-
  The reference's converter: 'exists' with a good name.
-/
namespace Go.Proofs.YtmipbilokjkjiaaGreatDoor
open Go.Tel
attribute [local simp] wNew wBox wBoxZ markT wCond wBuild fillS wO setCells wSt wLd wPart LFE wFad alive wInt wStr wGK wGd wPick wExt wLen wSlen wNot wNil okI ceI okB ceB okS ceS okL ceL okC ceC okO ceO okP ceP okG ceG okE ceE okR ceR okF ceF okX ceX okM ceM okN ceN okNf ceNf okNi ceNi ceA roL roC roO leL leC leO tpP tpC tpO clP clC clO clF clA clT clN clL nbP nbC nbO nbN nbL toPVs
section
variable {R : Nat → Option (List PV)}
theorem exists_rspec {k1 i1 k2 i2 : Int} {n1 n2 : List UInt8} {a1 a2 : AV} {rows1 rows2 : List (List PV)} (h1 : RowsO a1 rows1) (h2 : RowsO a2 rows2) :
    PureC (env R) 32 [.agg [I64 k1, SS n1, I64 i1, a1], .agg [I64 k2, SS n2, I64 i2, a2]] fun r => r = .agg [I64 6, SS [], I64 0, .capped [[.sc (.int .i64 k1), .sc (.string ⟨n1.toArray⟩), .sc (.int .i64 i1), .list rows1], [.sc (.int .i64 k2), .sc (.string ⟨n2.toArray⟩), .sc (.int .i64 i2), .list rows2]]] := by
  obtain ⟨b1, c1, r1⟩ := h1.closed ([] : List (List AV)) 0
  obtain ⟨b2, c2, r2⟩ := h2.closed ([] : List (List AV)) 0
  refine e32 (u0 := .agg [I64 k1, SS n1, I64 i1, b1]) (u1 := .agg [I64 k2, SS n2, I64 i2, b2]) (by simp [c1, c2]) (p32_0 ?_)
  simp [QP, QI, r1.ok, r2.ok, r1.toPV, r2.toPV, wBsl, repl, rowsBy]
theorem wSt_and2 {L : Lim} {s : Sto} {k : Nat} {a x : AV} {K K' : Sto → Prop} (hC : ∀ s, K s → K' s) (h : wSt L s k a x K) : wSt L s k a x K' := by
  unfold wSt at h ⊢
  split at h
  · obtain ⟨cs, h1, h2, h3⟩ := wO_inv h
    simp only [wO, h1]
    exact ⟨h2, hC _ h3⟩
  · exact h
theorem ld_row {E : Env} {s : Sto} {row : List PV} {K : AV → Prop} (hl : row.length = 4) (h : K (.agg (row.map .pv))) : wLd E s (some 4) (.eptr row 0) K := by
  simp only [wLd, wPart, List.length_map, hl, List.drop_zero]
  refine ⟨by omega, ?_⟩
  rw [List.take_of_length_le (by simp [hl])]
  exact h
theorem eqA_self {a : AV} {us : List Ty} (h : RowsO a (rowsT us)) : eqA a a = true := by
  rcases h with (rfl | rfl) | ⟨t, rfl⟩ <;> simp [eqA, eqP, eqPLL_rows]
end
end Go.Proofs.YtmipbilokjkjiaaGreatDoor
/-
  The reference's converter: every node.
-/
namespace Go.Proofs.YtmipbilokjkjiaaGreatDoor
open Go.Tel
end Go.Proofs.YtmipbilokjkjiaaGreatDoor
/-
  FromNode, the reference.
-/
namespace Go.Proofs.YtmipbilokjkjiaaGreatDoor
open Go.Tel
attribute [local simp] wNew wBox wBoxZ markT wCond wBuild fillS wO setCells wSt wLd wPart LFE wFad alive wInt wStr wGK wGd wPick wExt wLen wSlen wNot wNil okI ceI okB ceB okS ceS okL ceL okC ceC okO ceO okP ceP okG ceG okE ceE okR ceR okF ceF okX ceX okM ceM okN ceN okNf ceNf okNi ceNi ceA roL roC roO leL leC leO tpP tpC tpO clP clC clO clF clA clT clN clL nbP nbC nbO nbN nbL toPVs
end Go.Proofs.YtmipbilokjkjiaaGreatDoor
