/-
  The reference's converter: fail.
-/
import Derived.Test.YtmipbilokjkjiaaGreatDoorTD
import Derived.Test.YtmipbilokjkjiaaGreatDoorW3
set_option linter.unusedSimpArgs false
set_option linter.unusedVariables false
namespace Go.Proofs.YtmipbilokjkjiaaGreatDoor
open Go.Tel
attribute [local simp] wNew wBox wBoxZ markT wCond wBuild fillS wO setCells wSt wLd wPart LFE wFad alive wInt wStr wGK wGd wPick wExt wLen wSlen wNot wNil okI ceI okB ceB okS ceS okL ceL okC ceC okO ceO okP ceP okG ceG okE ceE okR ceR okF ceF okX ceX okM ceM okN ceN okNf ceNf okNi ceNi ceA roL roC roO leL leC leO tpP tpC tpO clP clC clO clF clA clT clN clL nbP nbC nbO nbN nbL toPVs
/-- The fault that is kept: the first one. -/
def flt (f fo : Int) (o : Int) : List AV := bif f == 0 then [I64 2, I64 o] else [I64 f, I64 fo]
section
variable {R : Nat → Option (List PV)} {bs : List (List AV)} {id : Nat}
theorem low_get {b : List AV} (h : bs[id]? = some b) (m : List (List AV)) : (bs ++ m)[id]? = some b := by
  have hl : id < bs.length := (List.getElem?_eq_some_iff.1 h).1
  rw [List.getElem?_append_left hl, h]
theorem low_set {b : List AV} (h : bs[id]? = some b) (m : List (List AV)) (v : List AV) : (bs ++ m).set id v = bs.set id v ++ m := by
  have hl : id < bs.length := (List.getElem?_eq_some_iff.1 h).1
  rw [List.set_append_left _ _ hl]
theorem mid_get (v : List AV) (m : List (List AV)) (k : Nat) : (bs.set id v ++ m)[bs.length + k]? = m[k]? := by
  have := get_app (bs.set id v) m k
  rwa [List.length_set] at this
theorem mid_get0 (v : List AV) (m : List (List AV)) : (bs.set id v ++ m)[bs.length]? = m[0]? := mid_get v m 0
theorem mid_set (v w : List AV) (m : List (List AV)) (k : Nat) : (bs.set id v ++ m).set (bs.length + k) w = bs.set id v ++ m.set k w := by
  have := set_app (bs.set id v) m k w
  rwa [List.length_set] at this
theorem take_set (v : List AV) (m : List (List AV)) : (bs.set id v ++ m).take bs.length = bs.set id v := by
  have : (bs.set id v).length = bs.length := by simp
  rw [← this, List.take_left']
  rfl
theorem okS_set {b : List AV} (hs : OkS ⟨bs, []⟩) (hb : ∀ n, idsLtL n b = true) (m : List (List AV)) : (((bs.set id b ++ m).take bs.length).all (idsLtL bs.length)) = true := by
  have e : (bs.set id b ++ m).take bs.length = bs.set id b := by
    have : (bs.set id b).length = bs.length := by simp
    rw [← this, List.take_left']
    rfl
  rw [e, List.all_eq_true]
  intro x hx
  rcases List.mem_or_eq_of_mem_set hx with h | h
  · exact hs x h
  · rw [h]; exact hb _
theorem fail_spec {ts : List (Nat × TypeId)} {L : Lim} {f fo k o : Int} {st : List UInt8} {a : AV} {rows : List (List PV)} (hro : L.ro ≤ id) (hid : bs[id]? = some [I64 f, I64 fo]) (hs : OkS ⟨bs, []⟩) (ha : RowsA a rows) :
    ∃ r s', (r = .agg [I64 0, SS [], I64 0, .capped []] ∧ s' = ⟨bs.set id (flt f fo o), ts⟩) ∧ CallE (env R) L 76 [.ptr id 0, .agg [I64 k, SS st, a, I64 o]] ⟨bs, ts⟩ r s' := by
  refine m76 (by simp [noIdL, noId]) (p76_0 ?_)
  have hlt : id < bs.length := (List.getElem?_eq_some_iff.1 hid).1
  have g := low_get hid
  have st' := low_set hid
  have hself : bs.set id [I64 f, I64 fo] = bs := by
    obtain ⟨hl, e⟩ := List.getElem?_eq_some_iff.1 hid
    rw [← e]
    simp
  by_cases h : f = 0
  · subst h
    simp [ha.ok, g, st', get_app, get_app0, set_app, set_app0, mid_get, mid_get0, mid_set, hro]
    refine p76_1 ?_
    simp [g, st', get_app, get_app0, set_app, set_app0, mid_get, mid_get0, mid_set, hro]
    refine ⟨by omega, QM_agg (ds := [I64 0, SS [], I64 0, .capped []]) ?_ ?_ ?_⟩
    · exact okS_set hs (by simp [idsLtL, idsLt]) _
    · simp
    · refine ⟨rfl, ?_⟩
      simp [flt, take_set]
  · simp [ha.ok, g, st', get_app, get_app0, set_app, set_app0, h]
    refine p76_1 ?_
    simp [g, st', get_app, get_app0, set_app, set_app0]
    have := okS_set (id := id) (b := [I64 f, I64 fo]) hs (by simp [idsLtL, idsLt])
    rw [hself] at this
    have b0 : (f == 0) = false := by simpa using h
    refine ⟨by omega, QM_agg (ds := [I64 0, SS [], I64 0, .capped []]) ?_ ?_ ?_⟩
    · exact this _
    · simp
    · refine ⟨rfl, ?_⟩
      simp [flt, b0, hself]
end
end Go.Proofs.YtmipbilokjkjiaaGreatDoor
/-
  The reference's converter: words.
-/
namespace Go.Proofs.YtmipbilokjkjiaaGreatDoor
open Go.Tel
attribute [local simp] wNew wBox wBoxZ markT wCond wBuild fillS wO setCells wSt wLd wPart LFE wFad alive wInt wStr wGK wGd wPick wExt wLen wSlen wNot wNil okI ceI okB ceB okS ceS okL ceL okC ceC okO ceO okP ceP okG ceG okE ceE okR ceR okF ceF okX ceX okM ceM okN ceN okNf ceNf okNi ceNi ceA roL roC roO leL leC leO tpP tpC tpO clP clC clO clF clA clT clN clL nbP nbC nbO nbN nbL toPVs
/-- A plain term without arguments, as it leaves a function. -/
abbrev T0 (k : Int) (n : List UInt8) (i : Int) : AV := .agg [I64 k, SS n, I64 i, .capped []]
theorem wIdx_rowsO {s : Sto} {k : Nat} {x : AV} {rows : List (List PV)} {i : Int} {row : List PV} {K : AV → Prop} (hx : RowsO x rows) (h0 : 0 ≤ i) (hr : rows[i.toNat]? = some row) (hl : row.length = k) (hk : 0 < k) (h : K (.eptr row 0)) : wIdx s k x (I64 i) K := by
  have e := hx.rowsOf
  rcases hx with (rfl | rfl) | ⟨t, rfl⟩ <;> simp only [wIdx, e, wO] <;> exact ⟨h0, row, hr, hl, by omega, h⟩
section
variable {R : Nat → Option (List PV)}
theorem any_spec : PureC (env R) 33 [] fun r => r = T0 0 [] 0 := by
  refine e33 (by simp) (p33_0 ?_)
  simp [QP, QI]
theorem never_spec : PureC (env R) 50 [] fun r => r = T0 1 [] 0 := by
  refine e50 (by simp) (p50_0 ?_)
  simp [QP, QI]
theorem var_spec (i : Int) : PureC (env R) 35 [I64 i] fun r => r = T0 5 [] i := by
  refine e35 (u0 := I64 i) (by simp) (p35_0 ?_)
  simp [QP, QI]
theorem named0_spec (n : List UInt8) : PureC (env R) 36 [SS n, .capped []] fun r => r = T0 2 n 0 := by
  refine e36 (u0 := SS n) (u1 := .capped []) (by simp) (p36_0 ?_)
  simp [QP, QI]
/-- What a converter's step leaves: the term it answers and the store. -/
def VRes (bs : List (List AV)) (id : Nat) (C : Int ⊕ Ty) (r : AV) (bs' : List (List AV)) : Prop := match C with
  | .inl e => r = T0 0 [] 0 ∧ bs' = bs.set id [I64 2, I64 e]
  | .inr (.mk k n i ts) => bs' = bs ∧ ∃ a, r = .agg [I64 k, SS n, I64 i, a] ∧ RowsO a (rowsT ts)
section
variable {bs : List (List AV)} {id : Nat}
theorem okS_all (hs : OkS ⟨bs, []⟩) (m : List (List AV)) : (((bs ++ m).take bs.length).all (idsLtL bs.length)) = true := by
  rw [List.take_left', List.all_eq_true]
  · exact fun x hx => hs x hx
  · rfl
theorem rword_spec {ts : List (Nat × TypeId)} {L : Lim} {k off : Int} {text : List UInt8} {a v : AV} {rows : List (List PV)} {vars : List (List UInt8)} (hro : L.ro ≤ id) (hid : bs[id]? = some [I64 0, I64 0]) (hs : OkS ⟨bs, []⟩)
    (ha : RowsA a rows) (hv : RowsO v (strRows vars)) (hvl : vars.length < 2 ^ 50) (ht : text.length < 2 ^ 60) :
    ∃ r s', (VRes bs id (wordC text off vars) r s'.bs ∧ s'.ts = ts) ∧ CallE (env R) L 75 [.ptr id 0, .agg [I64 k, SS text, a, I64 off], v] ⟨bs, ts⟩ r s' := by
  have hlt : id < bs.length := (List.getElem?_eq_some_iff.1 hid).1
  suffices H : ∀ Post : AV → Sto → Prop, (∀ r bs', VRes bs id (wordC text off vars) r bs' → Post r ⟨bs', ts⟩) → P75_0 R 0 L.ro L.rt (.ptr id 0) (.agg [I64 k, SS text, a, I64 off]) v ⟨bs, ts⟩ (QM (L.rr 75) bs.length Post) from
    m75 (by simp [noIdL, noId]) (H _ fun r bs' h => ⟨h, rfl⟩)
  intro Post hP
  have okT0 : ∀ (k i : Int) (n : List UInt8), Post (T0 k n i) ⟨bs, ts⟩ → ∀ m, QM (L.rr 75) bs.length Post (T0 k n i) ⟨bs ++ m, ts⟩ := by
    intro k i n h m
    refine QM_agg (ds := [I64 k, SS n, I64 i, .capped []]) (okS_all hs m) (by simp) ?_
    simpa using h
  have ro1 : ∀ n, L.ro ≤ bs.length + n := fun n => by omega
  refine p75_0 ?_
  by_cases h1 : text = [65, 110, 121]
  · subst h1
    simp [ha.ok, get_app, get_app0, set_app, set_app0]
    refine wCall_pure any_spec ?_
    rintro r rfl
    simp [get_app, get_app0, set_app, set_app0, ro1]
    exact okT0 _ _ _ (hP _ _ ⟨rfl, _, rfl, .inl (.capped _)⟩) _
  by_cases h2 : text = [78, 101, 118, 101, 114]
  · subst h2
    simp [ha.ok, get_app, get_app0, set_app, set_app0]
    refine wCall_pure never_spec ?_
    rintro r rfl
    simp [get_app, get_app0, set_app, set_app0, ro1]
    exact okT0 _ _ _ (hP _ _ ⟨rfl, _, rfl, .inl (.capped _)⟩) _
  have b1 : (text == [65, 110, 121]) = false := by simpa using h1
  have b2 : (text == [78, 101, 118, 101, 114]) = false := by simpa using h2
  have hwc : wordC text off vars = match lastOf vars text vars.length with
      | some j => .inr (.mk 5 [] ((vars.length : Int) - 1 - j) [])
      | none => bif isId text && !resv.contains text then .inr (.mk 2 text 0 []) else .inl off := by
    simp only [wordC, b1, b2, cond_false] <;> cases lastOf vars text vars.length <;> rfl
  rw [hwc] at hP
  simp [ha.ok, get_app, get_app0, set_app, set_app0, h1, h2]
  refine p75_1 ?_
  have hlen : (strRows vars).length = vars.length := strRows_len vars
  simp [hv.lenA, hlen]
  refine wAri_fit (by omega) (by omega) ?_
  have loop : ∀ j, j ≤ vars.length → lastOf vars text vars.length = lastOf vars text j →
      P75_2 R 0 L.ro L.rt (.ptr id 0) v (.ptr bs.length 0) (.ptr (bs.length + 1) 0) (I64 ((j : Int) - 1)) ⟨bs ++ [[I64 k, SS text, a, I64 off], [I64 0, SS [], I64 0, .capped []]], ts⟩ (QM (L.rr 75) bs.length Post) := by
    intro j
    induction j with
    | zero =>
      intro _ hl
      have hlast : lastOf vars text vars.length = none := hl
      rw [hlast] at hP
      refine p75_2 ?_
      simp
      refine p75_4 ?_
      simp [get_app, get_app0, set_app, set_app0]
      refine wCall_pure (rident_spec ht) ?_
      rintro r rfl
      have hs2 : OkS ⟨bs ++ [[I64 k, SS text, a, I64 off], [I64 0, SS [], I64 0, .capped []]], []⟩ := by
        intro b hb
        rcases List.mem_append.1 hb with h | h
        · exact idsLtL_mono (by simp) _ (hs b h)
        · simp only [List.mem_cons, List.not_mem_nil, or_false] at h
          rcases h with rfl | rfl <;> simp [idsLtL, idsLt, ha.idsLt]
      have failed : Post (T0 0 [] 0) ⟨bs.set id [I64 2, I64 off], ts⟩ →
          wCall (env R) (LFE (env R) 75 0 L.ro L.rt) (.func (.func 76) [] []) [.ptr id 0, .agg [I64 k, SS text, a, I64 off]] ⟨bs ++ [[I64 k, SS text, a, I64 off], [I64 0, SS [], I64 0, .capped []]], ts⟩ fun a47 s1x8 =>
            wSt (LFE (env R) 75 0 L.ro L.rt) s1x8 4 (.ptr (bs.length + 1) 0) a47 fun s1x9 => wLd (env R) s1x9 (some 4) (.ptr (bs.length + 1) 0) fun r => QM (L.rr 75) bs.length Post r s1x9 := by
        intro hp
        refine wCall_do (fail_spec (L := LFE (env R) 75 0 L.ro L.rt) hro (low_get hid _) hs2 ha) ?_
        rintro r s' ⟨rfl, rfl⟩
        rw [low_set hid]
        simp [mid_get, mid_get0, mid_set, ro1, flt]
        refine QM_agg (ds := [I64 0, SS [], I64 0, .capped []]) ?_ ?_ ?_
        · exact okS_set hs (by simp [idsLtL, idsLt]) _
        · simp
        · simpa [take_set] using hp
      cases c1 : isId text with
      | false =>
        simp [c1] at hP
        simp [get_app, get_app0]
        have := failed (hP _ _ ⟨rfl, rfl⟩)
        simpa using this
      | true =>
        simp [get_app, get_app0]
        refine wCall_pure keyword_spec ?_
        rintro r rfl
        cases c2 : resv.contains text with
        | true =>
          rw [c1, c2] at hP
          have := failed (hP _ _ ⟨rfl, rfl⟩)
          simpa [get_app, get_app0] using this
        | false =>
          rw [c1, c2] at hP
          simp [get_app, get_app0]
          refine p75_6 ?_
          simp [get_app, get_app0]
          refine wCall_pure (named0_spec _) ?_
          rintro r rfl
          simp [get_app, get_app0, set_app, set_app0, ro1]
          exact okT0 _ _ _ (hP _ _ ⟨rfl, _, rfl, .inl (.capped _)⟩) _
    | succ j ih =>
      intro hj hl
      refine p75_2 ?_
      have hge : (0 : Int) ≤ ((j + 1 : Nat) : Int) - 1 := by omega
      obtain ⟨w, hw⟩ : ∃ w, vars[j]? = some w := ⟨_, List.getElem?_eq_getElem (by omega)⟩
      have ej : (((j + 1 : Nat) : Int) - 1) = (j : Int) := by omega
      rw [ej]
      simp
      refine p75_3 ?_
      refine wIdx_rowsO hv (row := [.sc (.string ⟨w.toArray⟩)]) (by omega) (by simpa using strRows_get hw) rfl (by omega) ?_
      simp [get_app, get_app0, set_app, set_app0]
      refine ⟨?_, ?_⟩
      · intro e
        subst e
        simp [hv.lenA, hlen]
        refine wAri_fit (by omega) (by omega) ?_
        simp
        refine wAri_fit (by omega) (by omega) ?_
        have hlast : lastOf vars w vars.length = some j := by rw [hl]; simp [lastOf, hw]
        rw [hlast] at hP
        refine wCall_pure (var_spec _) ?_
        rintro r rfl
        simp [get_app, get_app0, set_app, set_app0, ro1]
        exact okT0 _ _ _ (hP _ _ ⟨rfl, _, rfl, .inl (.capped _)⟩) _
      · intro e
        refine p75_5 ?_
        simp only [wInt]
        refine ⟨⟨trivial, trivial⟩, wAri_fit (by omega) (by omega) ?_⟩
        refine ih (by omega) ?_
        rw [hl]
        have : (vars[j]? == some text) = false := by
          rw [hw]
          simpa using e
        simp [lastOf, this]
  exact loop vars.length (Nat.le_refl _) rfl
end
end
end Go.Proofs.YtmipbilokjkjiaaGreatDoor
/-
  The reference's converter: lists.
-/
namespace Go.Proofs.YtmipbilokjkjiaaGreatDoor
open Go.Tel
attribute [local simp] wNew wBox wBoxZ markT wCond wBuild fillS wO setCells wSt wLd wPart LFE wFad alive wInt wStr wGK wGd wPick wExt wLen wSlen wNot wNil okI ceI okB ceB okS ceS okL ceL okC ceC okO ceO okP ceP okG ceG okE ceE okR ceR okF ceF okX ceX okM ceM okN ceN okNf ceNf okNi ceNi ceA roL roC roO leL leC leO tpP tpC tpO clP clC clO clF clA clT clN clL nbP nbC nbO nbN nbL toPVs
theorem QM_rows {rr : Bool} {n : Nat} {Post : AV → Sto → Prop} {a : AV} {rows : List (List PV)} {s : Sto} (ha : RowsO a rows) (hok : ((s.bs.take n).all (idsLtL n)) = true) (h : ∀ a', RowsO a' rows → Post a' ⟨s.bs.take n, s.ts⟩) : QM rr n Post a s := by
  obtain ⟨a', hc, hr⟩ := ha.close s.bs n s.ts.length
  refine ⟨a', _, ?_, h a' hr⟩
  have hnr : newRef rr n a = none := by rcases ha with (rfl | rfl) | ⟨t, rfl⟩ <;> simp [newRef]
  simp [keepA, hok, hnr, hc]
/-- What a converter's step leaves, whatever it answers after a fault. -/
def CRes (bs : List (List AV)) (id : Nat) (C : Int ⊕ Ty) (r : AV) (bs' : List (List AV)) : Prop := match C with
  | .inl e => (∃ k n i a us, r = .agg [I64 k, SS n, I64 i, a] ∧ RowsO a (rowsT us)) ∧ bs' = bs.set id [I64 2, I64 e]
  | .inr (.mk k n i ts) => bs' = bs ∧ ∃ a, r = .agg [I64 k, SS n, I64 i, a] ∧ RowsO a (rowsT ts)
def LRes (bs : List (List AV)) (id : Nat) (C : Int ⊕ List Ty) (r : AV) (bs' : List (List AV)) : Prop := match C with
  | .inl e => (∃ us, RowsO r (rowsT us)) ∧ bs' = bs.set id [I64 2, I64 e]
  | .inr ts => bs' = bs ∧ RowsO r (rowsT ts)
theorem rowsT_four {l : List Ty} : ∀ r ∈ rowsT l, r.length = 4 := by
  intro r hr
  rw [rowsT_eq] at hr
  obtain ⟨z, _, rfl⟩ := List.mem_map.1 hr
  exact rowT_len z
section
variable {R : Nat → Option (List PV)}
/-- What the reference's conversion of a node is to do. -/
def ConvS (R : Nat → Option (List PV)) (c : Nd) (vars : List (List UInt8)) (v : AV) : Prop := ∀ (L : Lim) (bs : List (List AV)) (id : Nat) (ts : List (Nat × TypeId)), L.ro ≤ id → L.rt ≤ ts.length → bs[id]? = some [I64 0, I64 0] → OkS ⟨bs, []⟩ → ∀ x, NRep c x →
  ∃ r s', (∃ y, s'.ts = ts ++ y ∧ CRes bs id (conv c vars) r s'.bs) ∧ CallE (env R) L 47 [.ptr id 0, x, v] ⟨bs, ts⟩ r s'
theorem conv_faulted {c : Nd} {v x : AV} (hx : NRep c x) {L : Lim} {bs : List (List AV)} {id : Nat} {ts : List (Nat × TypeId)} {e : Int} (hro : L.ro ≤ id) (hid : bs[id]? = some [I64 2, I64 e]) (hs : OkS ⟨bs, []⟩) :
    ∃ r s', (r = T0 0 [] 0 ∧ s' = ⟨bs, ts⟩) ∧ CallE (env R) L 47 [.ptr id 0, x, v] ⟨bs, ts⟩ r s' := by
  have hlt : id < bs.length := (List.getElem?_eq_some_iff.1 hid).1
  have ro1 : ∀ n, L.ro ≤ bs.length + n := fun n => by omega
  obtain ⟨k, s, cs, o⟩ := c
  obtain ⟨a, rfl, ha⟩ := hx
  refine m47 (by simp [noIdL, noId]) (p47_0 ?_)
  have g := low_get hid
  simp [ha.ok, g, get_app, get_app0, set_app, set_app0, ro1]
  refine QM_agg (ds := [I64 0, SS [], I64 0, .capped []]) ?_ ?_ ?_
  · exact okS_all hs _
  · simp
  · simp
theorem okS_ids {bs : List (List AV)} {id : Nat} {b : List AV} (hs : OkS ⟨bs, []⟩) (hb : ∀ n, idsLtL n b = true) : OkS ⟨bs.set id b, []⟩ := by
  intro x hx
  have hl : (bs.set id b).length = bs.length := by simp
  simp only [hl]
  rcases List.mem_or_eq_of_mem_set hx with h | h
  · exact hs x h
  · rw [h]; exact hb _
/-- The rows of a list after a fault. -/
theorem all_after {args : List Nd} {vars : List (List UInt8)} {v : AV} (hl : args.length < 2 ^ 38) {L : Lim} {bs : List (List AV)} {id : Nat} {ts : List (Nat × TypeId)} {e : Int} (hro : L.ro ≤ id) (hrt : L.rt ≤ ts.length) (hid : bs[id]? = some [I64 0, I64 0]) (hs : OkS ⟨bs, []⟩) {Post : AV → Sto → Prop}
    (hP : ∀ r y, (∃ us, RowsO r (rowsT us)) → Post r ⟨bs.set id [I64 2, I64 e], ts ++ y⟩) :
    ∀ (j q : Nat) (acc : AV) (us : List Ty) (x : List (Nat × TypeId)), q + j = args.length → us.length = q → Apd ts.length (ts ++ x) 25 acc (rowsT us) →
      P77_1 R 0 L.ro L.rt (.ptr id 0) (.pv (.list (rowsN args))) v acc (I64 q) ⟨bs.set id [I64 2, I64 e], ts ++ x⟩ (QM (L.rr 77) bs.length Post) := by
  have hlt : id < bs.length := (List.getElem?_eq_some_iff.1 hid).1
  have h60 := hl
  have hid2 : (bs.set id [I64 2, I64 e])[id]? = some [I64 2, I64 e] := by simp [hlt]
  have hs2 : OkS ⟨bs.set id [I64 2, I64 e], []⟩ := okS_ids hs (by simp [idsLtL, idsLt])
  intro j
  induction j with
  | zero =>
    intro q acc us x hi hq hA
    refine p77_1 ?_
    have h1 : ¬ ((q : Int) < args.length) := by omega
    simp [rowsN_len, h1]
    refine p77_3 ?_
    have h0 := okS_set (id := id) (b := [I64 2, I64 e]) hs (by simp [idsLtL, idsLt]) []
    simp only [List.append_nil] at h0
    refine QM_rows hA.rowsO h0 fun a' ha' => ?_
    have e1 : (bs.set id [I64 2, I64 e]).take bs.length = bs.set id [I64 2, I64 e] := List.take_of_length_le (by simp)
    simp only [e1]
    exact hP _ _ ⟨us, ha'⟩
  | succ j ihj =>
    intro q acc us x hi hq hA
    refine p77_1 ?_
    have h1 : ((q : Int) < args.length) := by omega
    obtain ⟨c, hc⟩ : ∃ c, args[q]? = some c := ⟨_, List.getElem?_eq_getElem (by omega)⟩
    simp [rowsN_len, h1]
    refine p77_2 ?_
    refine wIdx_rows (.list _) (row := rowN c) (by omega) (by simpa using rowsN_get hc) (rowN_len c) (by omega) ?_
    have etk : List.take 4 ((rowN c).map AV.pv) = (rowN c).map .pv := List.take_of_length_le (by simp [rowN_len])
    simp [rowN_len]
    rw [etk]
    refine wCall_do (conv_faulted (NRep.of_row c) (L := LFE (env R) 77 0 L.ro L.rt) hro hid2 hs2) ?_
    rintro r s' ⟨rfl, rfl⟩
    simp [wBsl, repl, rowsBy]
    refine wApp_row (ts := ts) (x := x) (row := rowT (.mk 0 [] 0 [])) hA hrt rowsT_four (rowT_len _) (by omega) (by simp [rowT, okCell]) (by rw [rowsT_len]; omega) (by rw [rowsT_len]; omega) ?_
    intro acc' x' hA'
    refine p77_4 ?_
    simp only [wInt]
    refine ⟨⟨trivial, trivial⟩, wAri_fit (by omega) (by omega) ?_⟩
    have e4 : rowsT us ++ [rowT (.mk 0 [] 0 [])] = rowsT (us ++ [.mk 0 [] 0 []]) := by simp [rowsT_eq]
    rw [e4] at hA'
    have := ihj (q + 1) acc' _ x' (by omega) (by simp [hq]) hA'
    simpa using this
end
end Go.Proofs.YtmipbilokjkjiaaGreatDoor
/-
  The reference's converter: lists before a fault.
-/
namespace Go.Proofs.YtmipbilokjkjiaaGreatDoor
open Go.Tel
attribute [local simp] wNew wBox wBoxZ markT wCond wBuild fillS wO setCells wSt wLd wPart LFE wFad alive wInt wStr wGK wGd wPick wExt wLen wSlen wNot wNil okI ceI okB ceB okS ceS okL ceL okC ceC okO ceO okP ceP okG ceG okE ceE okR ceR okF ceF okX ceX okM ceM okN ceN okNf ceNf okNi ceNi ceA roL roC roO leL leC leO tpP tpC tpO clP clC clO clF clA clT clN clL nbP nbC nbO nbN nbL toPVs
theorem apd_more {ts x : List (Nat × Nat)} {k : Nat} {a : AV} {rows : List (List PV)} (h : Apd ts.length (ts ++ x) k a rows) (y : List (Nat × Nat)) : Apd ts.length (ts ++ (x ++ y)) k a rows := by
  rw [← List.append_assoc]
  exact h.grow
section
variable {R : Nat → Option (List PV)}
theorem all_loop {args : List Nd} {vars : List (List UInt8)} {v : AV} (hl : args.length < 2 ^ 38) (ih : ∀ c ∈ args, ConvS R c vars v) {L : Lim} {bs : List (List AV)} {id : Nat} {ts : List (Nat × TypeId)} (hro : L.ro ≤ id) (hrt : L.rt ≤ ts.length) (hid : bs[id]? = some [I64 0, I64 0]) (hs : OkS ⟨bs, []⟩) {Post : AV → Sto → Prop} :
    ∀ (j q : Nat) (done : List Ty) (acc : AV) (x : List (Nat × TypeId)), q + j = args.length → done.length = q → Apd ts.length (ts ++ x) 25 acc (rowsT done) →
      (∀ e, convL (args.drop q) vars = .inl e → ∀ r y, (∃ us, RowsO r (rowsT us)) → Post r ⟨bs.set id [I64 2, I64 e], ts ++ y⟩) →
      (∀ l, convL (args.drop q) vars = .inr l → ∀ r y, RowsO r (rowsT (done ++ l)) → Post r ⟨bs, ts ++ y⟩) →
      P77_1 R 0 L.ro L.rt (.ptr id 0) (.pv (.list (rowsN args))) v acc (I64 q) ⟨bs, ts ++ x⟩ (QM (L.rr 77) bs.length Post) := by
  have hlt : id < bs.length := (List.getElem?_eq_some_iff.1 hid).1
  have h60 := hl
  intro j
  induction j with
  | zero =>
    intro q done acc x hi hq hA hP1 hP2
    refine p77_1 ?_
    have h1 : ¬ ((q : Int) < args.length) := by omega
    simp [rowsN_len, h1]
    refine p77_3 ?_
    have h2 : args.drop q = [] := List.drop_of_length_le (by omega)
    have h0 := okS_all hs []
    simp only [List.append_nil] at h0
    refine QM_rows hA.rowsO h0 fun a' ha' => ?_
    have e1 : bs.take bs.length = bs := List.take_of_length_le (by omega)
    simp only [e1]
    exact hP2 [] (by rw [h2]; simp [convL]) _ _ (by simpa using ha')
  | succ j ihj =>
    intro q done acc x hi hq hA hP1 hP2
    refine p77_1 ?_
    have h1 : ((q : Int) < args.length) := by omega
    obtain ⟨c, hc⟩ : ∃ c, args[q]? = some c := ⟨_, List.getElem?_eq_getElem (by omega)⟩
    rw [drop_cons hc] at hP1 hP2
    simp only [convL] at hP1 hP2
    simp [rowsN_len, h1]
    refine p77_2 ?_
    refine wIdx_rows (.list _) (row := rowN c) (by omega) (by simpa using rowsN_get hc) (rowN_len c) (by omega) ?_
    have etk : List.take 4 ((rowN c).map AV.pv) = (rowN c).map .pv := List.take_of_length_le (by simp [rowN_len])
    simp [rowN_len]
    rw [etk]
    have hrt' : (LFE (env R) 77 0 L.ro L.rt).rt ≤ (ts ++ x).length := by simp [LFE]; omega
    have hc' := ih c (List.mem_of_getElem? hc) (LFE (env R) 77 0 L.ro L.rt) bs id (ts ++ x) hro hrt' hid hs _ (NRep.of_row c)
    refine wCall_do hc' ?_
    rintro r ⟨bs', ts'⟩ ⟨y, hy, hr⟩
    simp only at hy hr
    subst hy
    have hq' : (rowsT done).length = q := by rw [rowsT_len, hq]
    cases hcv : conv c vars with
    | inl e =>
      rw [hcv] at hr
      simp only [hcv] at hP1
      obtain ⟨⟨k, n, i, a, us, rfl, ha⟩, rfl⟩ := hr
      have htp := ha.toPV
      have hok := ha.ok
      simp [wBsl, repl, rowsBy, htp, hok]
      refine wApp_row (ts := ts) (x := x ++ y) (row := rowT (.mk k n i us)) (apd_more hA y) hrt rowsT_four (rowT_len _) (by omega) (by simp [rowT, okCell]) (by omega) (by omega) ?_
      intro acc' x' hA'
      refine p77_4 ?_
      simp only [wInt]
      refine ⟨⟨trivial, trivial⟩, wAri_fit (by omega) (by omega) ?_⟩
      have := all_after (R := R) (args := args) (vars := vars) (v := v) hl hro hrt hid hs (e := e) (Post := Post) (fun r y h => hP1 e rfl r y h) j (q + 1) acc' (done ++ [.mk k n i us]) x' (by omega) (by simp [hq]) (by
        have e4 : rowsT done ++ [rowT (.mk k n i us)] = rowsT (done ++ [.mk k n i us]) := by simp [rowsT_eq]
        rw [e4] at hA'
        exact hA')
      simpa using this
    | inr t =>
      rw [hcv] at hr
      simp only [hcv] at hP1 hP2
      obtain ⟨kt, nt, it, tt⟩ := t
      obtain ⟨rfl, a, rfl, ha⟩ := hr
      have htp := ha.toPV
      have hok := ha.ok
      simp [wBsl, repl, rowsBy, htp, hok]
      refine wApp_row (ts := ts) (x := x ++ y) (row := rowT (.mk kt nt it tt)) (apd_more hA y) hrt rowsT_four (rowT_len _) (by omega) (by simp [rowT, okCell]) (by omega) (by omega) ?_
      intro acc' x' hA'
      refine p77_4 ?_
      simp only [wInt]
      refine ⟨⟨trivial, trivial⟩, wAri_fit (by omega) (by omega) ?_⟩
      have e4 : rowsT done ++ [rowT (.mk kt nt it tt)] = rowsT (done ++ [.mk kt nt it tt]) := by simp [rowsT_eq]
      rw [e4] at hA'
      have := ihj (q + 1) (done ++ [.mk kt nt it tt]) acc' x' (by omega) (by simp [hq]) hA' (by
        intro e he r y h
        exact hP1 e (by rw [he]) r y h) (by
        intro l hl' r y h
        exact hP2 (.mk kt nt it tt :: l) (by rw [hl']) r y (by simpa using h))
      simpa using this
theorem all_spec {args : List Nd} {vars : List (List UInt8)} {v : AV} (hl : args.length < 2 ^ 38) (ih : ∀ c ∈ args, ConvS R c vars v) {L : Lim} {bs : List (List AV)} {id : Nat} {ts : List (Nat × TypeId)} (hro : L.ro ≤ id) (hrt : L.rt ≤ ts.length) (hid : bs[id]? = some [I64 0, I64 0]) (hs : OkS ⟨bs, []⟩) :
    ∃ r s', (∃ y, s'.ts = ts ++ y ∧ LRes bs id (convL args vars) r s'.bs) ∧ CallE (env R) L 77 [.ptr id 0, .pv (.list (rowsN args)), v] ⟨bs, ts⟩ r s' := by
  refine m77 (by simp [noIdL, noId]) (p77_0 ?_)
  have := all_loop (R := R) (v := v) hl ih hro hrt hid hs (Post := fun r s' => ∃ y, s'.ts = ts ++ y ∧ LRes bs id (convL args vars) r s'.bs) args.length 0 [] (.capped []) [] (by omega) rfl (.inl rfl) (by
    intro e he r y h
    simp only [List.drop_zero] at he
    exact ⟨y, rfl, by rw [he]; exact ⟨h, rfl⟩⟩) (by
    intro l hl' r y h
    simp only [List.drop_zero] at hl'
    exact ⟨y, rfl, by rw [hl']; exact ⟨rfl, by simpa using h⟩⟩)
  simpa using this
end
end Go.Proofs.YtmipbilokjkjiaaGreatDoor
/-
  The reference's converter: the end of a conversion.
-/
namespace Go.Proofs.YtmipbilokjkjiaaGreatDoor
open Go.Tel
attribute [local simp] wNew wBox wBoxZ markT wCond wBuild fillS wO setCells wSt wLd wPart LFE wFad alive wInt wStr wGK wGd wPick wExt wLen wSlen wNot wNil okI ceI okB ceB okS ceS okL ceL okC ceC okO ceO okP ceP okG ceG okE ceE okR ceR okF ceF okX ceX okM ceM okN ceN okNf ceNf okNi ceNi ceA roL roC roO leL leC leO tpP tpC tpO clP clC clO clF clA clT clN clL nbP nbC nbO nbN nbL toPVs
section
variable {R : Nat → Option (List PV)}
theorem VRes.cres {bs : List (List AV)} {id : Nat} {C : Int ⊕ Ty} {r : AV} {bs' : List (List AV)} (h : VRes bs id C r bs') : CRes bs id C r bs' := by
  cases C with
  | inl e =>
    obtain ⟨rfl, rfl⟩ := h
    exact ⟨⟨0, [], 0, .capped [], [], rfl, .inl (by simp [rowsT]; exact .capped _)⟩, rfl⟩
  | inr t =>
    obtain ⟨k, n, i, ts⟩ := t
    exact h
/-- The answer is stored, loaded and returned. -/
theorem conv_tail {bs : List (List AV)} {id : Nat} {ts y : List (Nat × TypeId)} {C : Int ⊕ Ty} {r : AV} {bs' : List (List AV)} {B Z : List AV} {more : List (List AV)} {L L' : Lim} {rr : Bool} (hid : bs[id]? = some [I64 0, I64 0]) (hs : OkS ⟨bs, []⟩) (hZ : Z.length = 4) (hro : L'.ro ≤ id) (hn0 : L'.n0 = 0)
    (h : CRes (bs ++ B :: Z :: more) id C r bs') :
    wSt L' ⟨bs', ts ++ y⟩ 4 (.ptr (bs.length + 1) 0) r fun s' => wLd (env R) s' (some 4) (.ptr (bs.length + 1) 0) fun r => QM rr bs.length (fun r s' => ∃ y, s'.ts = ts ++ y ∧ CRes bs id C r s'.bs) r s' := by
  have hlt : id < bs.length := (List.getElem?_eq_some_iff.1 hid).1
  have ro1 : ∀ n, L'.ro ≤ bs.length + n := fun n => by omega
  obtain ⟨z0, z1, z2, z3, rfl⟩ : ∃ z0 z1 z2 z3, Z = [z0, z1, z2, z3] := by
    rcases Z with _ | ⟨a, _ | ⟨b, _ | ⟨c, _ | ⟨d, _ | ⟨e, l⟩⟩⟩⟩⟩ <;> simp at hZ
    exact ⟨_, _, _, _, rfl⟩
  cases C with
  | inl e =>
    obtain ⟨⟨k, n, i, a, us, rfl, ha⟩, rfl⟩ := h
    rw [low_set hid]
    have hok := ha.ok
    have hnb := ha.noBlk
    simp [mid_get, mid_get0, mid_set, ro1, hok, hn0]
    obtain ⟨a', hc, hr⟩ := ha.close (bs.set id [I64 2, I64 e] ++ B :: [I64 k, SS n, I64 i, a] :: more) bs.length (ts ++ y).length
    refine QM_agg (ds := [I64 k, SS n, I64 i, a']) ?_ ?_ ?_
    · exact okS_set hs (by simp [idsLtL, idsLt]) _
    · simp at hc ⊢
      simp [hc]
    · refine ⟨⟨y, rfl⟩, ⟨k, n, i, a', us, rfl, hr⟩, ?_⟩
      simp only [take_set]
  | inr t =>
    obtain ⟨k, n, i, tt⟩ := t
    obtain ⟨rfl, a, rfl, ha⟩ := h
    have hok := ha.ok
    simp [get_app, get_app0, set_app, set_app0, ro1, hok, hn0]
    obtain ⟨a', hc, hr⟩ := ha.close (bs ++ B :: [I64 k, SS n, I64 i, a] :: more) bs.length (ts ++ y).length
    refine QM_agg (ds := [I64 k, SS n, I64 i, a']) ?_ ?_ ?_
    · exact okS_all hs _
    · simp at hc ⊢
      simp [hc]
    · refine ⟨⟨y, rfl⟩, ?_, a', rfl, hr⟩
      simp
end
end Go.Proofs.YtmipbilokjkjiaaGreatDoor
/-
  The reference's converter: words and what is no list.
-/
namespace Go.Proofs.YtmipbilokjkjiaaGreatDoor
open Go.Tel
attribute [local simp] wNew wBox wBoxZ markT wCond wBuild fillS wO setCells wSt wLd wPart LFE wFad alive wInt wStr wGK wGd wPick wExt wLen wSlen wNot wNil okI ceI okB ceB okS ceS okL ceL okC ceC okO ceO okP ceP okG ceG okE ceE okR ceR okF ceF okX ceX okM ceM okN ceN okNf ceNf okNi ceNi ceA roL roC roO leL leC leO tpP tpC tpO clP clC clO clF clA clT clN clL nbP nbC nbO nbN nbL toPVs
section
variable {R : Nat → Option (List PV)}
theorem okS_more {bs : List (List AV)} (hs : OkS ⟨bs, []⟩) {m : List (List AV)} (hm : ∀ b ∈ m, ∀ n, idsLtL n b = true) : OkS ⟨bs ++ m, []⟩ := by
  intro b hb
  rcases List.mem_append.1 hb with h | h
  · exact idsLtL_mono (by simp) _ (hs b h)
  · exact hm b h _
/-- The two blocks that a conversion lays. -/
theorem two_ok {k o : Int} {st : List UInt8} {a : AV} {rows : List (List PV)} (ha : RowsA a rows) : ∀ b ∈ [[I64 k, SS st, a, I64 o], [I64 0, SS [], I64 0, AV.capped []]], ∀ n, idsLtL n b = true := by
  intro b hb n
  simp only [List.mem_cons, List.not_mem_nil, or_false] at hb
  rcases hb with rfl | rfl <;> simp [idsLtL, idsLt, ha.idsLt]
/-- From the beginning to the node's kind. -/
theorem conv_begin {c : Nd} {vars : List (List UInt8)} {v : AV} (H : ∀ (k o : Int) (st : List UInt8) (cs : List Nd) (a : AV) (L : Lim) (bs : List (List AV)) (id : Nat) (ts : List (Nat × TypeId)), c = .mk k st cs o → RowsA a (rowsN cs) → L.ro ≤ id → L.rt ≤ ts.length → bs[id]? = some [I64 0, I64 0] → OkS ⟨bs, []⟩ →
      P47_1 R 0 L.ro L.rt (.ptr id 0) v (.ptr bs.length 0) (.ptr (bs.length + 1) 0) ⟨bs ++ [[I64 k, SS st, a, I64 o], [I64 0, SS [], I64 0, .capped []]], ts⟩ (QM (L.rr 47) bs.length fun r s' => ∃ y, s'.ts = ts ++ y ∧ CRes bs id (conv c vars) r s'.bs)) : ConvS R c vars v := by
  intro L bs id ts hro hrt hid hs x hx
  obtain ⟨k, st, cs, o⟩ := c
  obtain ⟨a, rfl, ha⟩ := hx
  have := H k o st cs a L bs id ts rfl ha hro hrt hid hs
  refine m47 (by simp [noIdL, noId]) (p47_0 ?_)
  have g := low_get hid
  simp [ha.ok, g, get_app, get_app0]
  simpa using this
theorem fail_tail {bs : List (List AV)} {id : Nat} {ts : List (Nat × TypeId)} {B Z : List AV} {more : List (List AV)} {L L' : Lim} {rr : Bool} {k o : Int} {st : List UInt8} {a : AV} {rows : List (List PV)} (hid : bs[id]? = some [I64 0, I64 0]) (hs : OkS ⟨bs, []⟩) (hZ : Z.length = 4) (hro : L'.ro ≤ id) (hn0 : L'.n0 = 0) (ha : RowsA a rows)
    (hm : ∀ b ∈ B :: Z :: more, ∀ n, idsLtL n b = true) :
    wCall (env R) L' (.func (.func 76) [] []) [.ptr id 0, .agg [I64 k, SS st, a, I64 o]] ⟨bs ++ B :: Z :: more, ts⟩ fun a44 s1 => wSt L' s1 4 (.ptr (bs.length + 1) 0) a44 fun s' => wLd (env R) s' (some 4) (.ptr (bs.length + 1) 0) fun r => QM rr bs.length (fun r s' => ∃ y, s'.ts = ts ++ y ∧ CRes bs id (.inl o) r s'.bs) r s' := by
  refine wCall_do (fail_spec (L := L') hro (low_get hid _) (okS_more hs hm) ha) ?_
  rintro r s' ⟨rfl, rfl⟩
  have := conv_tail (R := R) (y := []) (ts := ts) (C := .inl o) (r := T0 0 [] 0) (bs' := (bs ++ B :: Z :: more).set id [I64 2, I64 o]) (B := B) (Z := Z) (more := more) (L := L') (L' := L') (rr := rr) hid hs hZ hro hn0 ⟨⟨0, [], 0, .capped [], [], rfl, .inl (by simp [rowsT]; exact .capped _)⟩, rfl⟩
  simpa [flt] using this
theorem rconv_word {st : List UInt8} {cs : List Nd} {o : Int} {vars : List (List UInt8)} {v : AV} (hv : RowsO v (strRows vars)) (hvl : vars.length < 2 ^ 50) (ht : st.length < 2 ^ 60) : ConvS R (.mk 1 st cs o) vars v := by
  refine conv_begin fun k o' st' cs' a L bs id ts e ha hro hrt hid hs => ?_
  simp only [Nd.mk.injEq] at e
  obtain ⟨rfl, rfl, rfl, rfl⟩ := e
  rw [conv_word]
  refine p47_1 ?_
  simp [get_app, get_app0]
  refine wCall_do (rword_spec (L := LFE (env R) 47 0 L.ro L.rt) (text := st) (off := o) hro (low_get hid _) (okS_more hs (two_ok ha)) ha hv hvl ht) ?_
  rintro r ⟨bs', ts'⟩ ⟨hr, rfl⟩
  have := conv_tail (R := R) (y := []) (ts := ts') (C := wordC st o vars) (r := r) (bs' := bs') (B := [I64 1, SS st, a, I64 o]) (Z := [I64 0, SS [], I64 0, .capped []]) (more := []) (L := L) (L' := LFE (env R) 47 0 L.ro L.rt) (rr := L.rr 47) hid hs rfl hro rfl hr.cres
  simpa using this
end
end Go.Proofs.YtmipbilokjkjiaaGreatDoor
/-
  The reference's converter: malformed nodes.
-/
namespace Go.Proofs.YtmipbilokjkjiaaGreatDoor
open Go.Tel
attribute [local simp] wNew wBox wBoxZ markT wCond wBuild fillS wO setCells wSt wLd wPart LFE wFad alive wInt wStr wGK wGd wPick wExt wLen wSlen wNot wNil okI ceI okB ceB okS ceS okL ceL okC ceC okO ceO okP ceP okG ceG okE ceE okR ceR okF ceF okX ceX okM ceM okN ceN okNf ceNf okNi ceNi ceA roL roC roO leL leC leO tpP tpC tpO clP clC clO clF clA clT clN clL nbP nbC nbO nbN nbL toPVs
section
variable {R : Nat → Option (List PV)}
theorem rconv_other {k : Int} {st : List UInt8} {cs : List Nd} {o : Int} {vars : List (List UInt8)} {v : AV} (h1 : ¬ k = 1) (h3 : ¬ k = 3) : ConvS R (.mk k st cs o) vars v := by
  refine conv_begin fun k o' st' cs' a L bs id ts e ha hro hrt hid hs => ?_
  simp only [Nd.mk.injEq] at e
  obtain ⟨rfl, rfl, rfl, rfl⟩ := e
  rw [conv_other (by simpa using h1) (by simpa using h3)]
  have b3 : (k != 3) = true := by simpa using h3
  refine p47_1 ?_
  simp [get_app, get_app0, h1]
  refine p47_2 ?_
  simp [get_app, get_app0, b3]
  have := fail_tail (R := R) (ts := ts) (B := [I64 k, SS st, a, I64 o]) (Z := [I64 0, SS [], I64 0, .capped []]) (more := []) (L := L) (L' := LFE (env R) 47 0 L.ro L.rt) (rr := L.rr 47) (k := k) (o := o) (st := st) hid hs rfl hro rfl ha (two_ok ha)
  simpa using this
theorem rconv_nil {st : List UInt8} {o : Int} {vars : List (List UInt8)} {v : AV} : ConvS R (.mk 3 st [] o) vars v := by
  refine conv_begin fun k o' st' cs' a L bs id ts e ha hro hrt hid hs => ?_
  simp only [Nd.mk.injEq] at e
  obtain ⟨rfl, rfl, rfl, rfl⟩ := e
  have hcv : conv (.mk 3 st [] o) vars = .inl o := by rw [conv]; rfl
  rw [hcv]
  refine p47_1 ?_
  simp [get_app, get_app0]
  refine p47_2 ?_
  simp [get_app, get_app0, ha.lenA, rowsN]
  have := fail_tail (R := R) (ts := ts) (B := [I64 3, SS st, a, I64 o]) (Z := [I64 0, SS [], I64 0, .capped []]) (more := []) (L := L) (L' := LFE (env R) 47 0 L.ro L.rt) (rr := L.rr 47) (k := 3) (o := o) (st := st) hid hs rfl hro rfl ha (two_ok ha)
  simpa using this
theorem rconv_hk {st hs' : List UInt8} {hk ho o : Int} {hc args : List Nd} {vars : List (List UInt8)} {v : AV} (h1 : ¬ hk = 1) (hl : args.length < 2 ^ 60) : ConvS R (.mk 3 st (.mk hk hs' hc ho :: args) o) vars v := by
  refine conv_begin fun k o' st' cs' a L bs id ts e ha hro hrt hid hs => ?_
  simp only [Nd.mk.injEq] at e
  obtain ⟨rfl, rfl, rfl, rfl⟩ := e
  rw [conv_cons0 (by simpa using h1)]
  have hn0 : ¬ ((args.length : Int) + 1 = 0) := by omega
  have bn0 : ((args.length : Int) + 1 == 0) = false := by simpa using hn0
  have b1' : (hk != 1) = true := by simpa using h1
  refine p47_1 ?_
  simp [get_app, get_app0]
  refine p47_2 ?_
  simp [get_app, get_app0, ha.lenA, rowsN_len, hn0, bn0]
  refine wIdx_rows ha (row := rowN (.mk hk hs' hc ho)) (by omega) (by simp [rowsN]) (rowN_len _) (by omega) ?_
  simp [rowN, get_app, get_app0, hn0, bn0, b1', h1]
  have := fail_tail (R := R) (ts := ts) (B := [I64 3, SS st, a, I64 o]) (Z := [I64 0, SS [], I64 0, .capped []]) (more := []) (L := L) (L' := LFE (env R) 47 0 L.ro L.rt) (rr := L.rr 47) (k := 3) (o := o) (st := st) hid hs rfl hro rfl ha (two_ok ha)
  simpa using this
end
end Go.Proofs.YtmipbilokjkjiaaGreatDoor
/-
  The reference's converter: the end of a list.
-/
namespace Go.Proofs.YtmipbilokjkjiaaGreatDoor
open Go.Tel
attribute [local simp] wNew wBox wBoxZ markT wCond wBuild fillS wO setCells wSt wLd wPart LFE wFad alive wInt wStr wGK wGd wPick wExt wLen wSlen wNot wNil okI ceI okB ceB okS ceS okL ceL okC ceC okO ceO okP ceP okG ceG okE ceE okR ceR okF ceF okX ceX okM ceM okN ceN okNf ceNf okNi ceNi ceA roL roC roO leL leC leO tpP tpC tpO clP clC clO clF clA clT clN clL nbP nbC nbO nbN nbL toPVs
section
variable {R : Nat → Option (List PV)}
theorem LRes.cres {bs : List (List AV)} {id : Nat} {C : Int ⊕ List Ty} {r : AV} {bs' : List (List AV)} {kd : Int} {nm : List UInt8} (h : LRes bs id C r bs') : CRes bs id (listR kd nm [] C) (.agg [I64 kd, SS nm, I64 0, r]) bs' := by
  cases C with
  | inl e =>
    obtain ⟨⟨us, hr⟩, rfl⟩ := h
    exact ⟨⟨kd, nm, 0, r, us, rfl, hr⟩, rfl⟩
  | inr ts =>
    obtain ⟨rfl, hr⟩ := h
    exact ⟨rfl, r, rfl, by simpa using hr⟩
theorem LRes.rows {bs : List (List AV)} {id : Nat} {C : Int ⊕ List Ty} {r : AV} {bs' : List (List AV)} (h : LRes bs id C r bs') : ∃ rows, RowsO r rows := by
  cases C with
  | inl e => exact ⟨_, h.1.choose_spec⟩
  | inr ts => exact ⟨_, h.2⟩
theorem list_tail {args : List Nd} {vars : List (List UInt8)} {v : AV} (hl : args.length < 2 ^ 38) (ih : ∀ c ∈ args, ConvS R c vars v) {bs : List (List AV)} {id : Nat} {ts : List (Nat × TypeId)} {B Z : List AV} {more : List (List AV)} {L L' : Lim} {rr : Bool} {kd : Int} (hid : bs[id]? = some [I64 0, I64 0]) (hs : OkS ⟨bs, []⟩) (hZ : Z.length = 4) (hro : L'.ro ≤ id) (hrt : L'.rt ≤ ts.length) (hn0 : L'.n0 = 0)
    (hm : ∀ b ∈ B :: Z :: more, ∀ n, idsLtL n b = true) :
    wCall (env R) L' (.func (.func 77) [] []) [.ptr id 0, .pv (.list (rowsN args)), v] ⟨bs ++ B :: Z :: more, ts⟩ fun a59 s1 => wBuild [(I64 0), (SS []), (I64 0), (.capped [])] [(0, 1, (I64 kd)), (3, 1, a59)] fun a60 =>
      wSt L' s1 4 (.ptr (bs.length + 1) 0) a60 fun s' => wLd (env R) s' (some 4) (.ptr (bs.length + 1) 0) fun r => QM rr bs.length (fun r s' => ∃ y, s'.ts = ts ++ y ∧ CRes bs id (listR kd [] [] (convL args vars)) r s'.bs) r s' := by
  refine wCall_do (all_spec (L := L') hl ih hro hrt (low_get hid _) (okS_more hs hm)) ?_
  rintro r ⟨bs', ts'⟩ ⟨y, hy, hr⟩
  simp only at hy hr
  subst hy
  obtain ⟨rows, hrr⟩ := hr.rows
  have hok := hrr.ok
  have hce := hrr.cells
  have := conv_tail (R := R) (y := y) (ts := ts) (C := listR kd [] [] (convL args vars)) (r := .agg [I64 kd, SS [], I64 0, r]) (bs' := bs') (B := B) (Z := Z) (more := more) (L := L') (L' := L') (rr := rr) hid hs hZ hro hn0 hr.cres
  have hfill : fillS [I64 0, SS [], I64 0, .capped []] [(0, 1, I64 kd), (3, 1, r)] = some [I64 kd, SS [], I64 0, r] := by
    simp [hok, hce]
  simp only [wBuild, hfill]
  exact this
end
end Go.Proofs.YtmipbilokjkjiaaGreatDoor
