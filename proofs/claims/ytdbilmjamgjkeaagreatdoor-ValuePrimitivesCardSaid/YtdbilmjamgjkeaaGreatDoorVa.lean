/-
  Values as plain data, and the functions that compare them.
-/
import Derived.Test.YtdbilmjamgjkeaaGreatDoorW1
import Derived.Test.YtdbilmjamgjkeaaGreatDoorWvD
set_option linter.unusedSimpArgs false
set_option linter.unusedVariables false
namespace Go.Proofs.YtdbilmjamgjkeaaGreatDoor
open Go.Tel

inductive Val where
  | mk (kind int : Int) (str : List UInt8) (elems : List Val)

mutual
def rowV : Val → List PV
  | .mk k n s es => [.sc (.int .i64 k), .sc (.int .i64 n), .sc (.string ⟨s.toArray⟩), .list (rowsV es)]
def rowsV : List Val → List (List PV)
  | [] => []
  | v :: vs => rowV v :: rowsV vs
end

theorem rowsV_eq : ∀ l, rowsV l = l.map rowV
  | [] => by simp [rowsV]
  | v :: vs => by simp [rowsV, rowsV_eq vs]

/-- What a value is outside of slices. -/
def VRep (v : Val) (x : AV) : Prop := match v with
  | .mk k n s es => ∃ a, x = .agg [I64 k, I64 n, SS s, a] ∧ RowsA a (rowsV es)

theorem VRep.of_row (v : Val) : VRep v (.agg ((rowV v).map .pv)) := by
  cases v with
  | mk k n s es => exact ⟨_, by simp [rowV], .list _⟩

mutual
def ident : Val → Val → Bool
  | .mk k n s es, .mk k' n' s' es' => k == k' && (k == 0 || ((k == 1 || k == 2 || k == 5) && n == n') || (k == 3 && s == s') || (k == 4 && identL es es'))
def identL : List Val → List Val → Bool
  | [], [] => true
  | a :: l, b :: m => ident a b && identL l m
  | _, _ => false
end

theorem rowV_len (v : Val) : (rowV v).length = 4 := by cases v; simp [rowV]

theorem boolValue_spec (b : Bool) : PureC env 58 [BB b] fun v => v = .agg [I64 2, I64 (bif b then 1 else 0), SS [], .capped []] := by
  refine e58 rfl (p58_0 ?_)
  simp only [wNew, wCond]
  refine ⟨?_, ?_⟩
  · rintro rfl
    simp [wNew, wBox, wCond, wBuild, fillS, wO, setCells, wSt, wLd, wPart, LFE, wFad, alive, wInt, wStr, wGK, wGd, wPick, wExt, wLen, wSlen, wNot, wNil, okI, ceI, okB, ceB, okS, ceS, okL, ceL, okC, ceC, okO, ceO, okP, ceP, okG, ceG, okE, ceE, okR, ceR, okF, ceF, okX, ceX, okM, ceM, okN, ceN, okNf, ceNf, okNi, ceNi, ceA, roL, roC, roO, leL, leC, leO, tpP, tpC, tpO, clP, clC, clO, clF, clA, clT, clN, clL, nbP, nbC, nbO, nbN, nbL, toPVs, QP, QI]
  · rintro rfl
    refine p58_1 ?_
    simp [wNew, wBox, wCond, wBuild, fillS, wO, setCells, wSt, wLd, wPart, LFE, wFad, alive, wInt, wStr, wGK, wGd, wPick, wExt, wLen, wSlen, wNot, wNil, okI, ceI, okB, ceB, okS, ceS, okL, ceL, okC, ceC, okO, ceO, okP, ceP, okG, ceG, okE, ceE, okR, ceR, okF, ceF, okX, ceX, okM, ceM, okN, ceN, okNf, ceNf, okNi, ceNi, ceA, roL, roC, roO, leL, leC, leO, tpP, tpC, tpO, clP, clC, clO, clF, clA, clT, clN, clL, nbP, nbC, nbO, nbN, nbL, toPVs, QP, QI]

theorem bool_spec (b : Bool) : PureC env 60 [BB b] fun v => v = .agg [I64 2, I64 (bif b then 1 else 0), SS [], .capped []] := by
  refine e60 rfl (p60_0 ?_)
  simp only [wNew, wCond]
  refine ⟨?_, ?_⟩
  · rintro rfl
    simp [wNew, wBox, wCond, wBuild, fillS, wO, setCells, wSt, wLd, wPart, LFE, wFad, alive, wInt, wStr, wGK, wGd, wPick, wExt, wLen, wSlen, wNot, wNil, okI, ceI, okB, ceB, okS, ceS, okL, ceL, okC, ceC, okO, ceO, okP, ceP, okG, ceG, okE, ceE, okR, ceR, okF, ceF, okX, ceX, okM, ceM, okN, ceN, okNf, ceNf, okNi, ceNi, ceA, roL, roC, roO, leL, leC, leO, tpP, tpC, tpO, clP, clC, clO, clF, clA, clT, clN, clL, nbP, nbC, nbO, nbN, nbL, toPVs, QP, QI]
  · rintro rfl
    refine p60_1 ?_
    simp [wNew, wBox, wCond, wBuild, fillS, wO, setCells, wSt, wLd, wPart, LFE, wFad, alive, wInt, wStr, wGK, wGd, wPick, wExt, wLen, wSlen, wNot, wNil, okI, ceI, okB, ceB, okS, ceS, okL, ceL, okC, ceC, okO, ceO, okP, ceP, okG, ceG, okE, ceE, okR, ceR, okF, ceF, okX, ceX, okM, ceM, okN, ceN, okNf, ceNf, okNi, ceNi, ceA, roL, roC, roO, leL, leC, leO, tpP, tpC, tpO, clP, clC, clO, clF, clA, clT, clN, clL, nbP, nbC, nbO, nbN, nbL, toPVs, QP, QI]

theorem intValue_spec (n : Int) : PureC env 120 [I64 n] fun v => v = .agg [I64 1, I64 n, SS [], .capped []] := by
  refine e120 rfl (p120_0 ?_)
  simp [wNew, wBox, wCond, wBuild, fillS, wO, setCells, wSt, wLd, wPart, LFE, wFad, alive, wInt, wStr, wGK, wGd, wPick, wExt, wLen, wSlen, wNot, wNil, okI, ceI, okB, ceB, okS, ceS, okL, ceL, okC, ceC, okO, ceO, okP, ceP, okG, ceG, okE, ceE, okR, ceR, okF, ceF, okX, ceX, okM, ceM, okN, ceN, okNf, ceNf, okNi, ceNi, ceA, roL, roC, roO, leL, leC, leO, tpP, tpC, tpO, clP, clC, clO, clF, clA, clT, clN, clL, nbP, nbC, nbO, nbN, nbL, toPVs, QP, QI]

theorem int_spec (n : Int) : PureC env 59 [I64 n] fun v => v = .agg [I64 1, I64 n, SS [], .capped []] := by
  refine e59 rfl (p59_0 ?_)
  simp [wNew, wBox, wCond, wBuild, fillS, wO, setCells, wSt, wLd, wPart, LFE, wFad, alive, wInt, wStr, wGK, wGd, wPick, wExt, wLen, wSlen, wNot, wNil, okI, ceI, okB, ceB, okS, ceS, okL, ceL, okC, ceC, okO, ceO, okP, ceP, okG, ceG, okE, ceE, okR, ceR, okF, ceF, okX, ceX, okM, ceM, okN, ceN, okNf, ceNf, okNi, ceNi, ceA, roL, roC, roO, leL, leC, leO, tpP, tpC, tpO, clP, clC, clO, clF, clA, clT, clN, clL, nbP, nbC, nbO, nbN, nbL, toPVs, QP, QI]

theorem num_spec (n : Int) : PureC env 15 [I64 n] fun v => v = .agg [I64 1, I64 n, SS [], .capped []] := by
  refine e15 rfl (p15_0 ?_)
  simp [wNew, wBox, wCond, wBuild, fillS, wO, setCells, wSt, wLd, wPart, LFE, wFad, alive, wInt, wStr, wGK, wGd, wPick, wExt, wLen, wSlen, wNot, wNil, okI, ceI, okB, ceB, okS, ceS, okL, ceL, okC, ceC, okO, ceO, okP, ceP, okG, ceG, okE, ceE, okR, ceR, okF, ceF, okX, ceX, okM, ceM, okN, ceN, okNf, ceNf, okNi, ceNi, ceA, roL, roC, roO, leL, leC, leO, tpP, tpC, tpO, clP, clC, clO, clF, clA, clT, clN, clL, nbP, nbC, nbO, nbN, nbL, toPVs, QP, QI]

theorem isBool_spec {v : Val} {x : AV} (hx : VRep v x) : PureC env 61 [x] fun r => r = BB (match v with | .mk k n _ _ => k == 2 && (n == 0 || n == 1)) := by
  cases v with
  | mk k n s es =>
    obtain ⟨a, rfl, ha⟩ := hx
    refine e61 (u0 := .agg [I64 k, I64 n, SS s, a]) (by simp [close, closeL, ha.close]) (p61_0 ?_)
    cases h1 : (k == 2) <;> cases h2 : (n == 0) <;> cases h3 : (n == 1) <;> simp [wNew, wBox, wCond, wBuild, fillS, wO, setCells, wSt, wLd, wPart, LFE, wFad, alive, wInt, wStr, wGK, wGd, wPick, wExt, wLen, wSlen, wNot, wNil, okI, ceI, okB, ceB, okS, ceS, okL, ceL, okC, ceC, okO, ceO, okP, ceP, okG, ceG, okE, ceE, okR, ceR, okF, ceF, okX, ceX, okM, ceM, okN, ceN, okNf, ceNf, okNi, ceNi, ceA, roL, roC, roO, leL, leC, leO, tpP, tpC, tpO, clP, clC, clO, clF, clA, clT, clN, clL, nbP, nbC, nbO, nbN, nbL, toPVs, QP, QI, ha.ok, h1, h2, h3]

/-- The loop of slices.EqualFunc over the rest. -/
theorem eqf_loop {f : FuncId} {g : Val → Val → Bool} {l1 l2 : List Val} {x y : AV} (hx : RowsA x (rowsV l1)) (hy : RowsA y (rowsV l2)) (hlen : l1.length = l2.length) (h63 : l1.length < 2 ^ 62)
    (hf : ∀ a ∈ l1, ∀ b u v, VRep a u → VRep b v → PureC env f [u, v] fun r => r = BB (g a b)) {Post : AV → Prop} {n0 rt : Nat} :
    ∀ (j i : Nat), i + j = l1.length → Post (BB (((l1.drop i).zip (l2.drop i)).all fun p => g p.1 p.2)) → ∀ s : Sto, n0 ≤ s.bs.length →
      P89_2 n0 n0 rt y (.func (.func f) [] []) x (I64 l1.length) (I64 i) s (QP Post) := by
  intro j
  induction j with
  | zero =>
    intro i hi hp s hs
    refine p89_2 ?_
    have : ¬ ((i : Int) < l1.length) := by omega
    simp only [wInt, wCond, this, decide_false]
    refine ⟨⟨trivial, trivial⟩, by simp, fun _ => p89_4 ?_⟩
    have : l1.drop i = [] := List.drop_of_length_le (by omega)
    rw [this] at hp
    exact ⟨_, rfl, by simpa using hp⟩
  | succ j ih =>
    intro i hi hp s hs
    refine p89_2 ?_
    have h1 : ((i : Int) < l1.length) := by omega
    obtain ⟨a, ha⟩ : ∃ a, l1[i]? = some a := ⟨_, List.getElem?_eq_getElem (by omega)⟩
    obtain ⟨b, hb⟩ : ∃ b, l2[i]? = some b := ⟨_, List.getElem?_eq_getElem (by omega)⟩
    have ea : l1.drop i = a :: l1.drop (i + 1) := by
      obtain ⟨h, e⟩ := List.getElem?_eq_some_iff.1 ha
      rw [← e, List.drop_eq_getElem_cons h]
    have eb : l2.drop i = b :: l2.drop (i + 1) := by
      obtain ⟨h, e⟩ := List.getElem?_eq_some_iff.1 hb
      rw [← e, List.drop_eq_getElem_cons h]
    simp only [wInt, wCond, h1, decide_true]
    refine ⟨⟨trivial, trivial⟩, fun _ => p89_3 ?_, by simp⟩
    refine wIdx_rows hx (row := rowV a) (by omega) (by simp [rowsV_eq, ha]) (rowV_len a) (by omega) ?_
    have e1 := VRep.of_row a
    have e2 := VRep.of_row b
    have e3 := hf a (List.mem_of_getElem? ha) b _ _ e1 e2
    obtain ⟨k, n, c, es⟩ := a
    obtain ⟨k', n', c', es'⟩ := b
    simp only [rowV, List.map_cons, List.map_nil] at e3
    simp [wNew, wBox, wCond, wBuild, fillS, wO, setCells, wSt, wLd, wPart, LFE, wFad, alive, wInt, wStr, wGK, wGd, wPick, wExt, wLen, wSlen, wNot, wNil, okI, ceI, okB, ceB, okS, ceS, okL, ceL, okC, ceC, okO, ceO, okP, ceP, okG, ceG, okE, ceE, okR, ceR, okF, ceF, okX, ceX, okM, ceM, okN, ceN, okNf, ceNf, okNi, ceNi, ceA, roL, roC, roO, leL, leC, leO, tpP, tpC, tpO, clP, clC, clO, clF, clA, clT, clN, clL, nbP, nbC, nbO, nbN, nbL, toPVs, rowV, get_app, get_app0, set_app, set_app0, hs]
    refine wIdx_rows hy (row := rowV (.mk k' n' c' es')) (by omega) (by simp [rowsV_eq, hb]) (rowV_len _) (by omega) ?_
    simp [wNew, wBox, wCond, wBuild, fillS, wO, setCells, wSt, wLd, wPart, LFE, wFad, alive, wInt, wStr, wGK, wGd, wPick, wExt, wLen, wSlen, wNot, wNil, okI, ceI, okB, ceB, okS, ceS, okL, ceL, okC, ceC, okO, ceO, okP, ceP, okG, ceG, okE, ceE, okR, ceR, okF, ceF, okX, ceX, okM, ceM, okN, ceN, okNf, ceNf, okNi, ceNi, ceA, roL, roC, roO, leL, leC, leO, tpP, tpC, tpO, clP, clC, clO, clF, clA, clT, clN, clL, nbP, nbC, nbO, nbN, nbL, toPVs, rowV, get_app, get_app0, set_app, set_app0, hs]
    refine ⟨by omega, wCall_pure e3 ?_⟩
    rintro v rfl
    cases hg : g (.mk k n c es) (.mk k' n' c' es') with
    | false =>
      simp only [hg]
      refine ⟨fun _ => ⟨_, clP, ?_⟩, by simp⟩
      simpa [ea, eb, hg] using hp
    | true =>
      simp only [hg]
      refine ⟨by simp, fun _ => p89_5 ?_⟩
      simp only [wInt]
      refine ⟨⟨trivial, trivial⟩, wAri_fit (by omega) (by omega) ?_⟩
      have := ih (i + 1) (by omega) (by simpa [ea, eb, hg] using hp) ⟨s.bs ++ [[I64 k, I64 n, SS c, .pv (.list (rowsV es))], [I64 k', I64 n', SS c', .pv (.list (rowsV es'))]], s.ts⟩ (by simp; omega)
      exact this

theorem zip_all_ident : ∀ (l1 l2 : List Val), l1.length = l2.length → ((l1.zip l2).all fun p => ident p.1 p.2) = identL l1 l2
  | [], [], _ => by simp [identL]
  | a :: l, b :: m, h => by simp [identL, zip_all_ident l m (by simpa using h)]
  | [], _ :: _, h => by simp at h
  | _ :: _, [], h => by simp at h

theorem identL_len : ∀ (l1 l2 : List Val), l1.length ≠ l2.length → identL l1 l2 = false
  | [], [], h => by simp at h
  | a :: l, b :: m, h => by simp [identL, identL_len l m (by simpa using h)]
  | [], _ :: _, h => by simp [identL]
  | _ :: _, [], h => by simp [identL]

theorem eqf_spec {f : FuncId} {l1 l2 : List Val} {x y : AV} (hx : RowsA x (rowsV l1)) (hy : RowsA y (rowsV l2)) (h63 : l1.length < 2 ^ 62)
    (hf : ∀ a ∈ l1, ∀ b u v, VRep a u → VRep b v → PureC env f [u, v] fun r => r = BB (ident a b)) : PureC env 89 [x, y, .func (.func f) [] []] fun r => r = BB (identL l1 l2) := by
  refine e89 (by simp [noIdL, hx.noId, hy.noId, noId]) (p89_0 ?_)
  have l1e : (rowsV l1).length = l1.length := by simp [rowsV_eq]
  have l2e : (rowsV l2).length = l2.length := by simp [rowsV_eq]
  by_cases hl : l1.length = l2.length
  · have hn : (((rowsV l1).length : Int) != (rowsV l2).length) = false := by simp [l1e, l2e, hl]
    simp only [wLen, hx.lenA, hy.lenA, wO, wInt, wCond, hn]
    refine ⟨⟨trivial, trivial⟩, by simp, fun _ => p89_1 ?_⟩
    simp only [wLen, hx.lenA, wO, l1e]
    refine eqf_loop hx hy hl h63 hf l1.length 0 (by omega) ?_ _ (by simp)
    simp [zip_all_ident l1 l2 hl]
  · have hn : (((rowsV l1).length : Int) != (rowsV l2).length) = true := by simp [l1e, l2e]; omega
    simp only [wLen, hx.lenA, hy.lenA, wO, wInt, wCond, hn]
    refine ⟨⟨trivial, trivial⟩, fun _ => ⟨_, clP, ?_⟩, by simp⟩
    simp [identL_len l1 l2 hl]

mutual
/-- Every list in it is short enough for an int. -/
def okV : Val → Prop
  | .mk _ _ s es => s.length < 2 ^ 61 ∧ es.length < 2 ^ 61 ∧ okVs es
def okVs : List Val → Prop
  | [] => True
  | v :: l => okV v ∧ okVs l
end

mutual
theorem identical_spec : ∀ (a : Val), okV a → ∀ (b : Val) (x y : AV), VRep a x → VRep b y → PureC env 29 [x, y] fun r => r = BB (ident a b)
  | .mk k n s es, ho, .mk k' n' s' es', x, y, hx, hy => by
    obtain ⟨p, rfl, hp⟩ := hx
    obtain ⟨q, rfl, hq⟩ := hy
    simp only [okV] at ho
    have ih := identicals_spec es ho.2.2
    suffices H : ∀ Post : AV → Prop, Post (BB (ident (.mk k n s es) (.mk k' n' s' es'))) → P29_0 0 0 0 (.agg [I64 k, I64 n, SS s, p]) (.agg [I64 k', I64 n', SS s', q]) ⟨[], []⟩ (QP Post) from
      e29 (u0 := .agg [I64 k, I64 n, SS s, p]) (u1 := .agg [I64 k', I64 n', SS s', q]) (by simp [wNew, wBox, wCond, wBuild, fillS, wO, setCells, wSt, wLd, wPart, LFE, wFad, alive, wInt, wStr, wGK, wGd, wPick, wExt, wLen, wSlen, wNot, wNil, okI, ceI, okB, ceB, okS, ceS, okL, ceL, okC, ceC, okO, ceO, okP, ceP, okG, ceG, okE, ceE, okR, ceR, okF, ceF, okX, ceX, okM, ceM, okN, ceN, okNf, ceNf, okNi, ceNi, ceA, roL, roC, roO, leL, leC, leO, tpP, tpC, tpO, clP, clC, clO, clF, clA, clT, clN, clL, nbP, nbC, nbO, nbN, nbL, toPVs, hp.close, hq.close]) (H _ rfl)
    intro Post hPost
    refine p29_0 ?_
    simp only [ident] at hPost
    cases h0 : (k == k') with
    | false =>
      rw [h0] at hPost
      simpa [wNew, wBox, wCond, wBuild, fillS, wO, setCells, wSt, wLd, wPart, LFE, wFad, alive, wInt, wStr, wGK, wGd, wPick, wExt, wLen, wSlen, wNot, wNil, okI, ceI, okB, ceB, okS, ceS, okL, ceL, okC, ceC, okO, ceO, okP, ceP, okG, ceG, okE, ceE, okR, ceR, okF, ceF, okX, ceX, okM, ceM, okN, ceN, okNf, ceNf, okNi, ceNi, ceA, roL, roC, roO, leL, leC, leO, tpP, tpC, tpO, clP, clC, clO, clF, clA, clT, clN, clL, nbP, nbC, nbO, nbN, nbL, toPVs, QP, QI, hp.ok, hq.ok, bne, h0] using hPost
    | true =>
      have e0 : k = k' := by simpa using h0
      subst e0
      simp [wNew, wBox, wCond, wBuild, fillS, wO, setCells, wSt, wLd, wPart, LFE, wFad, alive, wInt, wStr, wGK, wGd, wPick, wExt, wLen, wSlen, wNot, wNil, okI, ceI, okB, ceB, okS, ceS, okL, ceL, okC, ceC, okO, ceO, okP, ceP, okG, ceG, okE, ceE, okR, ceR, okF, ceF, okX, ceX, okM, ceM, okN, ceN, okNf, ceNf, okNi, ceNi, ceA, roL, roC, roO, leL, leC, leO, tpP, tpC, tpO, clP, clC, clO, clF, clA, clT, clN, clL, nbP, nbC, nbO, nbN, nbL, toPVs, hp.ok, hq.ok]
      refine p29_1 ?_
      cases h1 : (k == 0) with
      | true =>
        rw [h0, h1] at hPost
        simpa [wNew, wBox, wCond, wBuild, fillS, wO, setCells, wSt, wLd, wPart, LFE, wFad, alive, wInt, wStr, wGK, wGd, wPick, wExt, wLen, wSlen, wNot, wNil, okI, ceI, okB, ceB, okS, ceS, okL, ceL, okC, ceC, okO, ceO, okP, ceP, okG, ceG, okE, ceE, okR, ceR, okF, ceF, okX, ceX, okM, ceM, okN, ceN, okNf, ceNf, okNi, ceNi, ceA, roL, roC, roO, leL, leC, leO, tpP, tpC, tpO, clP, clC, clO, clF, clA, clT, clN, clL, nbP, nbC, nbO, nbN, nbL, toPVs, QP, QI, h1] using hPost
      | false =>
        rw [h0, h1] at hPost
        simp only [Bool.true_and, Bool.false_or] at hPost
        have more : ∀ t : Bool, t = (k == 1 || k == 2 || k == 5) → P29_2 0 0 0 (.ptr 0 0) (.ptr 1 0) (I64 k) (BB t) ⟨[[I64 k, I64 n, SS s, p], [I64 k, I64 n', SS s', q]], []⟩ (QP Post) := by
          rintro t rfl
          refine p29_2 ?_
          cases h2 : (k == 1 || k == 2 || k == 5) with
          | true =>
            have h3 : (k == 3) = false := by
              simp at h2 ⊢; omega
            have h4 : (k == 4) = false := by
              simp at h2 ⊢; omega
            rw [h2, h3, h4] at hPost
            simpa [wNew, wBox, wCond, wBuild, fillS, wO, setCells, wSt, wLd, wPart, LFE, wFad, alive, wInt, wStr, wGK, wGd, wPick, wExt, wLen, wSlen, wNot, wNil, okI, ceI, okB, ceB, okS, ceS, okL, ceL, okC, ceC, okO, ceO, okP, ceP, okG, ceG, okE, ceE, okR, ceR, okF, ceF, okX, ceX, okM, ceM, okN, ceN, okNf, ceNf, okNi, ceNi, ceA, roL, roC, roO, leL, leC, leO, tpP, tpC, tpO, clP, clC, clO, clF, clA, clT, clN, clL, nbP, nbC, nbO, nbN, nbL, toPVs, QP, QI] using hPost
          | false =>
            rw [h2] at hPost
            cases h3 : (k == 3) with
            | true =>
              have h4 : (k == 4) = false := by
                simp at h3 ⊢; omega
              rw [h3, h4] at hPost
              simpa [wNew, wBox, wCond, wBuild, fillS, wO, setCells, wSt, wLd, wPart, LFE, wFad, alive, wInt, wStr, wGK, wGd, wPick, wExt, wLen, wSlen, wNot, wNil, okI, ceI, okB, ceB, okS, ceS, okL, ceL, okC, ceC, okO, ceO, okP, ceP, okG, ceG, okE, ceE, okR, ceR, okF, ceF, okX, ceX, okM, ceM, okN, ceN, okNf, ceNf, okNi, ceNi, ceA, roL, roC, roO, leL, leC, leO, tpP, tpC, tpO, clP, clC, clO, clF, clA, clT, clN, clL, nbP, nbC, nbO, nbN, nbL, toPVs, QP, QI, h3] using hPost
            | false =>
              rw [h3] at hPost
              cases h4 : (k == 4) with
              | false =>
                rw [h4] at hPost
                simp [wNew, wBox, wCond, wBuild, fillS, wO, setCells, wSt, wLd, wPart, LFE, wFad, alive, wInt, wStr, wGK, wGd, wPick, wExt, wLen, wSlen, wNot, wNil, okI, ceI, okB, ceB, okS, ceS, okL, ceL, okC, ceC, okO, ceO, okP, ceP, okG, ceG, okE, ceE, okR, ceR, okF, ceF, okX, ceX, okM, ceM, okN, ceN, okNf, ceNf, okNi, ceNi, ceA, roL, roC, roO, leL, leC, leO, tpP, tpC, tpO, clP, clC, clO, clF, clA, clT, clN, clL, nbP, nbC, nbO, nbN, nbL, toPVs, h3, h4]
                refine p29_3 ?_
                simpa [wNew, wBox, wCond, wBuild, fillS, wO, setCells, wSt, wLd, wPart, LFE, wFad, alive, wInt, wStr, wGK, wGd, wPick, wExt, wLen, wSlen, wNot, wNil, okI, ceI, okB, ceB, okS, ceS, okL, ceL, okC, ceC, okO, ceO, okP, ceP, okG, ceG, okE, ceE, okR, ceR, okF, ceF, okX, ceX, okM, ceM, okN, ceN, okNf, ceNf, okNi, ceNi, ceA, roL, roC, roO, leL, leC, leO, tpP, tpC, tpO, clP, clC, clO, clF, clA, clT, clN, clL, nbP, nbC, nbO, nbN, nbL, toPVs, QP, QI] using hPost
              | true =>
                rw [h4] at hPost
                simp [wNew, wBox, wCond, wBuild, fillS, wO, setCells, wSt, wLd, wPart, LFE, wFad, alive, wInt, wStr, wGK, wGd, wPick, wExt, wLen, wSlen, wNot, wNil, okI, ceI, okB, ceB, okS, ceS, okL, ceL, okC, ceC, okO, ceO, okP, ceP, okG, ceG, okE, ceE, okR, ceR, okF, ceF, okX, ceX, okM, ceM, okN, ceN, okNf, ceNf, okNi, ceNi, ceA, roL, roC, roO, leL, leC, leO, tpP, tpC, tpO, clP, clC, clO, clF, clA, clT, clN, clL, nbP, nbC, nbO, nbN, nbL, toPVs, h3, h4]
                refine wCall_pure (eqf_spec hp hq (by omega) ih) ?_
                rintro v rfl
                simpa [wNew, wBox, wCond, wBuild, fillS, wO, setCells, wSt, wLd, wPart, LFE, wFad, alive, wInt, wStr, wGK, wGd, wPick, wExt, wLen, wSlen, wNot, wNil, okI, ceI, okB, ceB, okS, ceS, okL, ceL, okC, ceC, okO, ceO, okP, ceP, okG, ceG, okE, ceE, okR, ceR, okF, ceF, okX, ceX, okM, ceM, okN, ceN, okNf, ceNf, okNi, ceNi, ceA, roL, roC, roO, leL, leC, leO, tpP, tpC, tpO, clP, clC, clO, clF, clA, clT, clN, clL, nbP, nbC, nbO, nbN, nbL, toPVs, QP, QI] using hPost
        cases h2 : (k == 1) with
        | true =>
          simp [wNew, wBox, wCond, wBuild, fillS, wO, setCells, wSt, wLd, wPart, LFE, wFad, alive, wInt, wStr, wGK, wGd, wPick, wExt, wLen, wSlen, wNot, wNil, okI, ceI, okB, ceB, okS, ceS, okL, ceL, okC, ceC, okO, ceO, okP, ceP, okG, ceG, okE, ceE, okR, ceR, okF, ceF, okX, ceX, okM, ceM, okN, ceN, okNf, ceNf, okNi, ceNi, ceA, roL, roC, roO, leL, leC, leO, tpP, tpC, tpO, clP, clC, clO, clF, clA, clT, clN, clL, nbP, nbC, nbO, nbN, nbL, toPVs, h1, h2]
          exact more true (by simp [h2])
        | false =>
          cases h3 : (k == 2) with
          | true =>
            simp [wNew, wBox, wCond, wBuild, fillS, wO, setCells, wSt, wLd, wPart, LFE, wFad, alive, wInt, wStr, wGK, wGd, wPick, wExt, wLen, wSlen, wNot, wNil, okI, ceI, okB, ceB, okS, ceS, okL, ceL, okC, ceC, okO, ceO, okP, ceP, okG, ceG, okE, ceE, okR, ceR, okF, ceF, okX, ceX, okM, ceM, okN, ceN, okNf, ceNf, okNi, ceNi, ceA, roL, roC, roO, leL, leC, leO, tpP, tpC, tpO, clP, clC, clO, clF, clA, clT, clN, clL, nbP, nbC, nbO, nbN, nbL, toPVs, h1, h2, h3]
            exact more true (by simp [h2, h3])
          | false =>
            simp [wNew, wBox, wCond, wBuild, fillS, wO, setCells, wSt, wLd, wPart, LFE, wFad, alive, wInt, wStr, wGK, wGd, wPick, wExt, wLen, wSlen, wNot, wNil, okI, ceI, okB, ceB, okS, ceS, okL, ceL, okC, ceC, okO, ceO, okP, ceP, okG, ceG, okE, ceE, okR, ceR, okF, ceF, okX, ceX, okM, ceM, okN, ceN, okNf, ceNf, okNi, ceNi, ceA, roL, roC, roO, leL, leC, leO, tpP, tpC, tpO, clP, clC, clO, clF, clA, clT, clN, clL, nbP, nbC, nbO, nbN, nbL, toPVs, h1, h2, h3]
            exact more (k == 5) (by simp [h2, h3])
theorem identicals_spec : ∀ (l : List Val), okVs l → ∀ a ∈ l, ∀ (b : Val) (x y : AV), VRep a x → VRep b y → PureC env 29 [x, y] fun r => r = BB (ident a b)
  | [], _, _, h => by cases h
  | e :: l, ho, a, h => by
    simp only [okVs] at ho
    rcases List.mem_cons.1 h with h' | h'
    · rw [h']
      exact identical_spec e ho.1
    · exact identicals_spec l ho.2 a h'
end

end Go.Proofs.YtdbilmjamgjkeaaGreatDoor

/-
  Values: the reference's comparison, and equality of a value with itself.
-/
namespace Go.Proofs.YtdbilmjamgjkeaaGreatDoor
open Go.Tel

theorem drop_cons {α : Type} {l : List α} {i : Nat} {a : α} (h : l[i]? = some a) : l.drop i = a :: l.drop (i + 1) := by
  obtain ⟨h, e⟩ := List.getElem?_eq_some_iff.1 h
  rw [← e, List.drop_eq_getElem_cons h]

/-- The loop of the reference's Identical. -/
theorem rid_loop {k n n' : Int} {s s' : List UInt8} {es es' : List Val} {p q : AV} (hp : RowsA p (rowsV es)) (hq : RowsA q (rowsV es')) (h63' : es'.length < 2 ^ 62)
    (ih : ∀ a ∈ es, ∀ b ∈ es', ∀ (x y : AV), VRep a x → VRep b y → PureC env 54 [x, y] fun r => r = BB (ident a b)) {Post : AV → Prop} :
    ∀ (j i : Nat), i + j = es.length → i ≤ es'.length → Post (BB (identL (es.drop i) (es'.drop i))) →
      P54_3 0 0 0 (.ptr 0 0) (.ptr 1 0) (I64 i) ⟨[[I64 k, I64 n, SS s, p], [I64 k, I64 n', SS s', q]], []⟩ (QP Post) := by
  have l1 : (rowsV es).length = es.length := by simp [rowsV_eq]
  have l2 : (rowsV es').length = es'.length := by simp [rowsV_eq]
  intro j
  induction j with
  | zero =>
    intro i hi hi' hP
    refine p54_3 ?_
    have h1 : ¬ ((i : Int) < es.length) := by omega
    have h2 : es.drop i = [] := List.drop_of_length_le (by omega)
    simp [wNew, wBox, wCond, wBuild, fillS, wO, setCells, wSt, wLd, wPart, LFE, wFad, alive, wInt, wStr, wGK, wGd, wPick, wExt, wLen, wSlen, wNot, wNil, okI, ceI, okB, ceB, okS, ceS, okL, ceL, okC, ceC, okO, ceO, okP, ceP, okG, ceG, okE, ceE, okR, ceR, okF, ceF, okX, ceX, okM, ceM, okN, ceN, okNf, ceNf, okNi, ceNi, ceA, roL, roC, roO, leL, leC, leO, tpP, tpC, tpO, clP, clC, clO, clF, clA, clT, clN, clL, nbP, nbC, nbO, nbN, nbL, toPVs, hp.lenA, hq.lenA, l1, l2, h1]
    refine p54_6 ?_
    have h3 : identL (es.drop i) (es'.drop i) = ((es.length : Int) == es'.length) := by
      rw [h2]
      by_cases h : es.length = es'.length
      · have : es'.drop i = [] := List.drop_of_length_le (by omega)
        simp [this, identL, h]
      · have h4 : es'.drop i ≠ [] := by
          intro e
          have := congrArg List.length e
          simp at this
          omega
        cases h5 : es'.drop i with
        | nil => exact absurd h5 h4
        | cons a l =>
          simp [identL]
          omega
    rw [h3] at hP
    simpa [wNew, wBox, wCond, wBuild, fillS, wO, setCells, wSt, wLd, wPart, LFE, wFad, alive, wInt, wStr, wGK, wGd, wPick, wExt, wLen, wSlen, wNot, wNil, okI, ceI, okB, ceB, okS, ceS, okL, ceL, okC, ceC, okO, ceO, okP, ceP, okG, ceG, okE, ceE, okR, ceR, okF, ceF, okX, ceX, okM, ceM, okN, ceN, okNf, ceNf, okNi, ceNi, ceA, roL, roC, roO, leL, leC, leO, tpP, tpC, tpO, clP, clC, clO, clF, clA, clT, clN, clL, nbP, nbC, nbO, nbN, nbL, toPVs, QP, QI, hp.lenA, hq.lenA, l1, l2] using hP
  | succ j ihj =>
    intro i hi hi' hP
    refine p54_3 ?_
    have h1 : ((i : Int) < es.length) := by omega
    obtain ⟨a, ha⟩ : ∃ a, es[i]? = some a := ⟨_, List.getElem?_eq_getElem (by omega)⟩
    by_cases h2 : i < es'.length
    · have h2' : ((i : Int) < es'.length) := by omega
      obtain ⟨b, hb⟩ : ∃ b, es'[i]? = some b := ⟨_, List.getElem?_eq_getElem (by omega)⟩
      simp [wNew, wBox, wCond, wBuild, fillS, wO, setCells, wSt, wLd, wPart, LFE, wFad, alive, wInt, wStr, wGK, wGd, wPick, wExt, wLen, wSlen, wNot, wNil, okI, ceI, okB, ceB, okS, ceS, okL, ceL, okC, ceC, okO, ceO, okP, ceP, okG, ceG, okE, ceE, okR, ceR, okF, ceF, okX, ceX, okM, ceM, okN, ceN, okNf, ceNf, okNi, ceNi, ceA, roL, roC, roO, leL, leC, leO, tpP, tpC, tpO, clP, clC, clO, clF, clA, clT, clN, clL, nbP, nbC, nbO, nbN, nbL, toPVs, hp.lenA, hq.lenA, l1, l2, h1, h2']
      refine p54_5 ?_
      simp [wNew, wBox, wCond, wBuild, fillS, wO, setCells, wSt, wLd, wPart, LFE, wFad, alive, wInt, wStr, wGK, wGd, wPick, wExt, wLen, wSlen, wNot, wNil, okI, ceI, okB, ceB, okS, ceS, okL, ceL, okC, ceC, okO, ceO, okP, ceP, okG, ceG, okE, ceE, okR, ceR, okF, ceF, okX, ceX, okM, ceM, okN, ceN, okNf, ceNf, okNi, ceNi, ceA, roL, roC, roO, leL, leC, leO, tpP, tpC, tpO, clP, clC, clO, clF, clA, clT, clN, clL, nbP, nbC, nbO, nbN, nbL, toPVs]
      refine wIdx_rows hp (row := rowV a) (by omega) (by simp [rowsV_eq, ha]) (rowV_len a) (by omega) ?_
      have e3 := ih a (List.mem_of_getElem? ha) b (List.mem_of_getElem? hb) _ _ (VRep.of_row a) (VRep.of_row b)
      simp [wNew, wBox, wCond, wBuild, fillS, wO, setCells, wSt, wLd, wPart, LFE, wFad, alive, wInt, wStr, wGK, wGd, wPick, wExt, wLen, wSlen, wNot, wNil, okI, ceI, okB, ceB, okS, ceS, okL, ceL, okC, ceC, okO, ceO, okP, ceP, okG, ceG, okE, ceE, okR, ceR, okF, ceF, okX, ceX, okM, ceM, okN, ceN, okNf, ceNf, okNi, ceNi, ceA, roL, roC, roO, leL, leC, leO, tpP, tpC, tpO, clP, clC, clO, clF, clA, clT, clN, clL, nbP, nbC, nbO, nbN, nbL, toPVs, rowV_len]
      refine wIdx_rows hq (row := rowV b) (by omega) (by simp [rowsV_eq, hb]) (rowV_len b) (by omega) ?_
      simp [wNew, wBox, wCond, wBuild, fillS, wO, setCells, wSt, wLd, wPart, LFE, wFad, alive, wInt, wStr, wGK, wGd, wPick, wExt, wLen, wSlen, wNot, wNil, okI, ceI, okB, ceB, okS, ceS, okL, ceL, okC, ceC, okO, ceO, okP, ceP, okG, ceG, okE, ceE, okR, ceR, okF, ceF, okX, ceX, okM, ceM, okN, ceN, okNf, ceNf, okNi, ceNi, ceA, roL, roC, roO, leL, leC, leO, tpP, tpC, tpO, clP, clC, clO, clF, clA, clT, clN, clL, nbP, nbC, nbO, nbN, nbL, toPVs, rowV_len]
      have ta : ((rowV a).map AV.pv).take 4 = (rowV a).map AV.pv := List.take_of_length_le (by simp [rowV_len])
      have tb : ((rowV b).map AV.pv).take 4 = (rowV b).map AV.pv := List.take_of_length_le (by simp [rowV_len])
      rw [ta, tb]
      refine wCall_pure e3 ?_
      rintro v rfl
      rw [drop_cons ha, drop_cons hb] at hP
      simp only [identL] at hP
      cases hg : ident a b with
      | false =>
        rw [hg] at hP
        simpa [wNew, wBox, wCond, wBuild, fillS, wO, setCells, wSt, wLd, wPart, LFE, wFad, alive, wInt, wStr, wGK, wGd, wPick, wExt, wLen, wSlen, wNot, wNil, okI, ceI, okB, ceB, okS, ceS, okL, ceL, okC, ceC, okO, ceO, okP, ceP, okG, ceG, okE, ceE, okR, ceR, okF, ceF, okX, ceX, okM, ceM, okN, ceN, okNf, ceNf, okNi, ceNi, ceA, roL, roC, roO, leL, leC, leO, tpP, tpC, tpO, clP, clC, clO, clF, clA, clT, clN, clL, nbP, nbC, nbO, nbN, nbL, toPVs, QP, QI] using hP
      | true =>
        rw [hg] at hP
        simp [wNew, wBox, wCond, wBuild, fillS, wO, setCells, wSt, wLd, wPart, LFE, wFad, alive, wInt, wStr, wGK, wGd, wPick, wExt, wLen, wSlen, wNot, wNil, okI, ceI, okB, ceB, okS, ceS, okL, ceL, okC, ceC, okO, ceO, okP, ceP, okG, ceG, okE, ceE, okR, ceR, okF, ceF, okX, ceX, okM, ceM, okN, ceN, okNf, ceNf, okNi, ceNi, ceA, roL, roC, roO, leL, leC, leO, tpP, tpC, tpO, clP, clC, clO, clF, clA, clT, clN, clL, nbP, nbC, nbO, nbN, nbL, toPVs]
        refine p54_7 ?_
        simp only [wInt]
        refine ⟨⟨trivial, trivial⟩, wAri_fit (by omega) (by omega) ?_⟩
        exact ihj (i + 1) (by omega) (by omega) (by simpa using hP)
    · have h2' : ¬ ((i : Int) < es'.length) := by omega
      simp [wNew, wBox, wCond, wBuild, fillS, wO, setCells, wSt, wLd, wPart, LFE, wFad, alive, wInt, wStr, wGK, wGd, wPick, wExt, wLen, wSlen, wNot, wNil, okI, ceI, okB, ceB, okS, ceS, okL, ceL, okC, ceC, okO, ceO, okP, ceP, okG, ceG, okE, ceE, okR, ceR, okF, ceF, okX, ceX, okM, ceM, okN, ceN, okNf, ceNf, okNi, ceNi, ceA, roL, roC, roO, leL, leC, leO, tpP, tpC, tpO, clP, clC, clO, clF, clA, clT, clN, clL, nbP, nbC, nbO, nbN, nbL, toPVs, hp.lenA, hq.lenA, l1, l2, h1, h2']
      refine p54_6 ?_
      have h3 : identL (es.drop i) (es'.drop i) = ((es.length : Int) == es'.length) := by
        have : es'.drop i = [] := List.drop_of_length_le (by omega)
        rw [this, drop_cons ha]
        simp [identL]
        omega
      rw [h3] at hP
      simpa [wNew, wBox, wCond, wBuild, fillS, wO, setCells, wSt, wLd, wPart, LFE, wFad, alive, wInt, wStr, wGK, wGd, wPick, wExt, wLen, wSlen, wNot, wNil, okI, ceI, okB, ceB, okS, ceS, okL, ceL, okC, ceC, okO, ceO, okP, ceP, okG, ceG, okE, ceE, okR, ceR, okF, ceF, okX, ceX, okM, ceM, okN, ceN, okNf, ceNf, okNi, ceNi, ceA, roL, roC, roO, leL, leC, leO, tpP, tpC, tpO, clP, clC, clO, clF, clA, clT, clN, clL, nbP, nbC, nbO, nbN, nbL, toPVs, QP, QI, hp.lenA, hq.lenA, l1, l2] using hP

theorem okVs_mem : ∀ {l : List Val} {v : Val}, okVs l → v ∈ l → okV v
  | [], _, _, h => by cases h
  | e :: l, v, ho, h => by
    simp only [okVs] at ho
    rcases List.mem_cons.1 h with h' | h'
    · rw [h']; exact ho.1
    · exact okVs_mem ho.2 h'

mutual
theorem rident_spec : ∀ (a : Val), okV a → ∀ (b : Val), okV b → ∀ (x y : AV), VRep a x → VRep b y → PureC env 54 [x, y] fun r => r = BB (ident a b)
  | .mk k n s es, ho, .mk k' n' s' es', ho', x, y, hx, hy => by
    obtain ⟨p, rfl, hp⟩ := hx
    obtain ⟨q, rfl, hq⟩ := hy
    simp only [okV] at ho ho'
    have ih := ridents_spec es ho.2.2
    suffices H : ∀ Post : AV → Prop, Post (BB (ident (.mk k n s es) (.mk k' n' s' es'))) → P54_0 0 0 0 (.agg [I64 k, I64 n, SS s, p]) (.agg [I64 k', I64 n', SS s', q]) ⟨[], []⟩ (QP Post) from
      e54 (u0 := .agg [I64 k, I64 n, SS s, p]) (u1 := .agg [I64 k', I64 n', SS s', q]) (by simp [wNew, wBox, wCond, wBuild, fillS, wO, setCells, wSt, wLd, wPart, LFE, wFad, alive, wInt, wStr, wGK, wGd, wPick, wExt, wLen, wSlen, wNot, wNil, okI, ceI, okB, ceB, okS, ceS, okL, ceL, okC, ceC, okO, ceO, okP, ceP, okG, ceG, okE, ceE, okR, ceR, okF, ceF, okX, ceX, okM, ceM, okN, ceN, okNf, ceNf, okNi, ceNi, ceA, roL, roC, roO, leL, leC, leO, tpP, tpC, tpO, clP, clC, clO, clF, clA, clT, clN, clL, nbP, nbC, nbO, nbN, nbL, toPVs, hp.close, hq.close]) (H _ rfl)
    intro Post hPost
    refine p54_0 ?_
    simp only [ident] at hPost
    cases h0 : (k == k') with
    | false =>
      rw [h0] at hPost
      simpa [wNew, wBox, wCond, wBuild, fillS, wO, setCells, wSt, wLd, wPart, LFE, wFad, alive, wInt, wStr, wGK, wGd, wPick, wExt, wLen, wSlen, wNot, wNil, okI, ceI, okB, ceB, okS, ceS, okL, ceL, okC, ceC, okO, ceO, okP, ceP, okG, ceG, okE, ceE, okR, ceR, okF, ceF, okX, ceX, okM, ceM, okN, ceN, okNf, ceNf, okNi, ceNi, ceA, roL, roC, roO, leL, leC, leO, tpP, tpC, tpO, clP, clC, clO, clF, clA, clT, clN, clL, nbP, nbC, nbO, nbN, nbL, toPVs, QP, QI, hp.ok, hq.ok, bne, h0] using hPost
    | true =>
      have e0 : k = k' := by simpa using h0
      subst e0
      simp [wNew, wBox, wCond, wBuild, fillS, wO, setCells, wSt, wLd, wPart, LFE, wFad, alive, wInt, wStr, wGK, wGd, wPick, wExt, wLen, wSlen, wNot, wNil, okI, ceI, okB, ceB, okS, ceS, okL, ceL, okC, ceC, okO, ceO, okP, ceP, okG, ceG, okE, ceE, okR, ceR, okF, ceF, okX, ceX, okM, ceM, okN, ceN, okNf, ceNf, okNi, ceNi, ceA, roL, roC, roO, leL, leC, leO, tpP, tpC, tpO, clP, clC, clO, clF, clA, clT, clN, clL, nbP, nbC, nbO, nbN, nbL, toPVs, hp.ok, hq.ok]
      refine p54_1 ?_
      cases h1 : (k == 0) with
      | true =>
        rw [h0, h1] at hPost
        simpa [wNew, wBox, wCond, wBuild, fillS, wO, setCells, wSt, wLd, wPart, LFE, wFad, alive, wInt, wStr, wGK, wGd, wPick, wExt, wLen, wSlen, wNot, wNil, okI, ceI, okB, ceB, okS, ceS, okL, ceL, okC, ceC, okO, ceO, okP, ceP, okG, ceG, okE, ceE, okR, ceR, okF, ceF, okX, ceX, okM, ceM, okN, ceN, okNf, ceNf, okNi, ceNi, ceA, roL, roC, roO, leL, leC, leO, tpP, tpC, tpO, clP, clC, clO, clF, clA, clT, clN, clL, nbP, nbC, nbO, nbN, nbL, toPVs, QP, QI, h1] using hPost
      | false =>
        rw [h0, h1] at hPost
        simp only [Bool.true_and, Bool.false_or] at hPost
        have more : ∀ t : Bool, t = (k == 1 || k == 2 || k == 5) → P54_2 0 0 0 (.ptr 0 0) (.ptr 1 0) (I64 k) (BB t) ⟨[[I64 k, I64 n, SS s, p], [I64 k, I64 n', SS s', q]], []⟩ (QP Post) := by
          rintro t rfl
          refine p54_2 ?_
          cases h2 : (k == 1 || k == 2 || k == 5) with
          | true =>
            have h3 : (k == 3) = false := by
              simp at h2 ⊢; omega
            have h4 : (k == 4) = false := by
              simp at h2 ⊢; omega
            rw [h2, h3, h4] at hPost
            simpa [wNew, wBox, wCond, wBuild, fillS, wO, setCells, wSt, wLd, wPart, LFE, wFad, alive, wInt, wStr, wGK, wGd, wPick, wExt, wLen, wSlen, wNot, wNil, okI, ceI, okB, ceB, okS, ceS, okL, ceL, okC, ceC, okO, ceO, okP, ceP, okG, ceG, okE, ceE, okR, ceR, okF, ceF, okX, ceX, okM, ceM, okN, ceN, okNf, ceNf, okNi, ceNi, ceA, roL, roC, roO, leL, leC, leO, tpP, tpC, tpO, clP, clC, clO, clF, clA, clT, clN, clL, nbP, nbC, nbO, nbN, nbL, toPVs, QP, QI] using hPost
          | false =>
            rw [h2] at hPost
            cases h3 : (k == 3) with
            | true =>
              have h4 : (k == 4) = false := by
                simp at h3 ⊢; omega
              rw [h3, h4] at hPost
              simpa [wNew, wBox, wCond, wBuild, fillS, wO, setCells, wSt, wLd, wPart, LFE, wFad, alive, wInt, wStr, wGK, wGd, wPick, wExt, wLen, wSlen, wNot, wNil, okI, ceI, okB, ceB, okS, ceS, okL, ceL, okC, ceC, okO, ceO, okP, ceP, okG, ceG, okE, ceE, okR, ceR, okF, ceF, okX, ceX, okM, ceM, okN, ceN, okNf, ceNf, okNi, ceNi, ceA, roL, roC, roO, leL, leC, leO, tpP, tpC, tpO, clP, clC, clO, clF, clA, clT, clN, clL, nbP, nbC, nbO, nbN, nbL, toPVs, QP, QI, h3] using hPost
            | false =>
              rw [h3] at hPost
              cases h4 : (k == 4) with
              | false =>
                rw [h4] at hPost
                simp [wNew, wBox, wCond, wBuild, fillS, wO, setCells, wSt, wLd, wPart, LFE, wFad, alive, wInt, wStr, wGK, wGd, wPick, wExt, wLen, wSlen, wNot, wNil, okI, ceI, okB, ceB, okS, ceS, okL, ceL, okC, ceC, okO, ceO, okP, ceP, okG, ceG, okE, ceE, okR, ceR, okF, ceF, okX, ceX, okM, ceM, okN, ceN, okNf, ceNf, okNi, ceNi, ceA, roL, roC, roO, leL, leC, leO, tpP, tpC, tpO, clP, clC, clO, clF, clA, clT, clN, clL, nbP, nbC, nbO, nbN, nbL, toPVs, h3, h4]
                refine p54_4 ?_
                simpa [wNew, wBox, wCond, wBuild, fillS, wO, setCells, wSt, wLd, wPart, LFE, wFad, alive, wInt, wStr, wGK, wGd, wPick, wExt, wLen, wSlen, wNot, wNil, okI, ceI, okB, ceB, okS, ceS, okL, ceL, okC, ceC, okO, ceO, okP, ceP, okG, ceG, okE, ceE, okR, ceR, okF, ceF, okX, ceX, okM, ceM, okN, ceN, okNf, ceNf, okNi, ceNi, ceA, roL, roC, roO, leL, leC, leO, tpP, tpC, tpO, clP, clC, clO, clF, clA, clT, clN, clL, nbP, nbC, nbO, nbN, nbL, toPVs, QP, QI] using hPost
              | true =>
                rw [h4] at hPost
                simp [wNew, wBox, wCond, wBuild, fillS, wO, setCells, wSt, wLd, wPart, LFE, wFad, alive, wInt, wStr, wGK, wGd, wPick, wExt, wLen, wSlen, wNot, wNil, okI, ceI, okB, ceB, okS, ceS, okL, ceL, okC, ceC, okO, ceO, okP, ceP, okG, ceG, okE, ceE, okR, ceR, okF, ceF, okX, ceX, okM, ceM, okN, ceN, okNf, ceNf, okNi, ceNi, ceA, roL, roC, roO, leL, leC, leO, tpP, tpC, tpO, clP, clC, clO, clF, clA, clT, clN, clL, nbP, nbC, nbO, nbN, nbL, toPVs, h3, h4]
                exact rid_loop hp hq (by omega) (fun a ha b hb => ih a ha b (okVs_mem ho'.2.2 hb)) es.length 0 (by omega) (by omega) (by simpa using hPost)
        cases h2 : (k == 1) with
        | true =>
          simp [wNew, wBox, wCond, wBuild, fillS, wO, setCells, wSt, wLd, wPart, LFE, wFad, alive, wInt, wStr, wGK, wGd, wPick, wExt, wLen, wSlen, wNot, wNil, okI, ceI, okB, ceB, okS, ceS, okL, ceL, okC, ceC, okO, ceO, okP, ceP, okG, ceG, okE, ceE, okR, ceR, okF, ceF, okX, ceX, okM, ceM, okN, ceN, okNf, ceNf, okNi, ceNi, ceA, roL, roC, roO, leL, leC, leO, tpP, tpC, tpO, clP, clC, clO, clF, clA, clT, clN, clL, nbP, nbC, nbO, nbN, nbL, toPVs, h1, h2]
          exact more true (by simp [h2])
        | false =>
          cases h3 : (k == 2) with
          | true =>
            simp [wNew, wBox, wCond, wBuild, fillS, wO, setCells, wSt, wLd, wPart, LFE, wFad, alive, wInt, wStr, wGK, wGd, wPick, wExt, wLen, wSlen, wNot, wNil, okI, ceI, okB, ceB, okS, ceS, okL, ceL, okC, ceC, okO, ceO, okP, ceP, okG, ceG, okE, ceE, okR, ceR, okF, ceF, okX, ceX, okM, ceM, okN, ceN, okNf, ceNf, okNi, ceNi, ceA, roL, roC, roO, leL, leC, leO, tpP, tpC, tpO, clP, clC, clO, clF, clA, clT, clN, clL, nbP, nbC, nbO, nbN, nbL, toPVs, h1, h2, h3]
            exact more true (by simp [h2, h3])
          | false =>
            simp [wNew, wBox, wCond, wBuild, fillS, wO, setCells, wSt, wLd, wPart, LFE, wFad, alive, wInt, wStr, wGK, wGd, wPick, wExt, wLen, wSlen, wNot, wNil, okI, ceI, okB, ceB, okS, ceS, okL, ceL, okC, ceC, okO, ceO, okP, ceP, okG, ceG, okE, ceE, okR, ceR, okF, ceF, okX, ceX, okM, ceM, okN, ceN, okNf, ceNf, okNi, ceNi, ceA, roL, roC, roO, leL, leC, leO, tpP, tpC, tpO, clP, clC, clO, clF, clA, clT, clN, clL, nbP, nbC, nbO, nbN, nbL, toPVs, h1, h2, h3]
            exact more (k == 5) (by simp [h2, h3])
theorem ridents_spec : ∀ (l : List Val), okVs l → ∀ a ∈ l, ∀ (b : Val), okV b → ∀ (x y : AV), VRep a x → VRep b y → PureC env 54 [x, y] fun r => r = BB (ident a b)
  | [], _, _, h => by cases h
  | e :: l, ho, a, h => by
    simp only [okVs] at ho
    rcases List.mem_cons.1 h with h' | h'
    · rw [h']
      exact rident_spec e ho.1
    · exact ridents_spec l ho.2 a h'
end

/-- The loop of ValueEqual, on a value and itself. -/
theorem ve_loop {k n : Int} {s : List UInt8} {es : List Val} {p q : AV} (hp : RowsA p (rowsV es)) (hq : RowsA q (rowsV es)) (h63 : es.length < 2 ^ 62)
    (ih : ∀ a ∈ es, ∀ (x y : AV), VRep a x → VRep a y → PureC env 17 [x, y] fun r => r = BB true) {Post : AV → Prop} (hP : Post (BB true)) :
    ∀ (j i : Nat), i + j = es.length → P17_2 0 0 0 (.ptr 0 0) (.ptr 1 0) (I64 i) ⟨[[I64 k, I64 n, SS s, p], [I64 k, I64 n, SS s, q]], []⟩ (QP Post) := by
  have l1 : (rowsV es).length = es.length := by simp [rowsV_eq]
  intro j
  induction j with
  | zero =>
    intro i hi
    refine p17_2 ?_
    have h1 : ¬ ((i : Int) < es.length) := by omega
    simp [wNew, wBox, wCond, wBuild, fillS, wO, setCells, wSt, wLd, wPart, LFE, wFad, alive, wInt, wStr, wGK, wGd, wPick, wExt, wLen, wSlen, wNot, wNil, okI, ceI, okB, ceB, okS, ceS, okL, ceL, okC, ceC, okO, ceO, okP, ceP, okG, ceG, okE, ceE, okR, ceR, okF, ceF, okX, ceX, okM, ceM, okN, ceN, okNf, ceNf, okNi, ceNi, ceA, roL, roC, roO, leL, leC, leO, tpP, tpC, tpO, clP, clC, clO, clF, clA, clT, clN, clL, nbP, nbC, nbO, nbN, nbL, toPVs, hp.lenA, hq.lenA, l1, h1]
    refine p17_4 ?_
    simpa [wNew, wBox, wCond, wBuild, fillS, wO, setCells, wSt, wLd, wPart, LFE, wFad, alive, wInt, wStr, wGK, wGd, wPick, wExt, wLen, wSlen, wNot, wNil, okI, ceI, okB, ceB, okS, ceS, okL, ceL, okC, ceC, okO, ceO, okP, ceP, okG, ceG, okE, ceE, okR, ceR, okF, ceF, okX, ceX, okM, ceM, okN, ceN, okNf, ceNf, okNi, ceNi, ceA, roL, roC, roO, leL, leC, leO, tpP, tpC, tpO, clP, clC, clO, clF, clA, clT, clN, clL, nbP, nbC, nbO, nbN, nbL, toPVs, QP, QI] using hP
  | succ j ihj =>
    intro i hi
    refine p17_2 ?_
    have h1 : ((i : Int) < es.length) := by omega
    obtain ⟨a, ha⟩ : ∃ a, es[i]? = some a := ⟨_, List.getElem?_eq_getElem (by omega)⟩
    simp [wNew, wBox, wCond, wBuild, fillS, wO, setCells, wSt, wLd, wPart, LFE, wFad, alive, wInt, wStr, wGK, wGd, wPick, wExt, wLen, wSlen, wNot, wNil, okI, ceI, okB, ceB, okS, ceS, okL, ceL, okC, ceC, okO, ceO, okP, ceP, okG, ceG, okE, ceE, okR, ceR, okF, ceF, okX, ceX, okM, ceM, okN, ceN, okNf, ceNf, okNi, ceNi, ceA, roL, roC, roO, leL, leC, leO, tpP, tpC, tpO, clP, clC, clO, clF, clA, clT, clN, clL, nbP, nbC, nbO, nbN, nbL, toPVs, hp.lenA, hq.lenA, l1, h1]
    refine p17_3 ?_
    simp [wNew, wBox, wCond, wBuild, fillS, wO, setCells, wSt, wLd, wPart, LFE, wFad, alive, wInt, wStr, wGK, wGd, wPick, wExt, wLen, wSlen, wNot, wNil, okI, ceI, okB, ceB, okS, ceS, okL, ceL, okC, ceC, okO, ceO, okP, ceP, okG, ceG, okE, ceE, okR, ceR, okF, ceF, okX, ceX, okM, ceM, okN, ceN, okNf, ceNf, okNi, ceNi, ceA, roL, roC, roO, leL, leC, leO, tpP, tpC, tpO, clP, clC, clO, clF, clA, clT, clN, clL, nbP, nbC, nbO, nbN, nbL, toPVs]
    refine wIdx_rows hp (row := rowV a) (by omega) (by simp [rowsV_eq, ha]) (rowV_len a) (by omega) ?_
    have e3 := ih a (List.mem_of_getElem? ha) _ _ (VRep.of_row a) (VRep.of_row a)
    simp [wNew, wBox, wCond, wBuild, fillS, wO, setCells, wSt, wLd, wPart, LFE, wFad, alive, wInt, wStr, wGK, wGd, wPick, wExt, wLen, wSlen, wNot, wNil, okI, ceI, okB, ceB, okS, ceS, okL, ceL, okC, ceC, okO, ceO, okP, ceP, okG, ceG, okE, ceE, okR, ceR, okF, ceF, okX, ceX, okM, ceM, okN, ceN, okNf, ceNf, okNi, ceNi, ceA, roL, roC, roO, leL, leC, leO, tpP, tpC, tpO, clP, clC, clO, clF, clA, clT, clN, clL, nbP, nbC, nbO, nbN, nbL, toPVs, rowV_len]
    refine wIdx_rows hq (row := rowV a) (by omega) (by simp [rowsV_eq, ha]) (rowV_len a) (by omega) ?_
    simp [wNew, wBox, wCond, wBuild, fillS, wO, setCells, wSt, wLd, wPart, LFE, wFad, alive, wInt, wStr, wGK, wGd, wPick, wExt, wLen, wSlen, wNot, wNil, okI, ceI, okB, ceB, okS, ceS, okL, ceL, okC, ceC, okO, ceO, okP, ceP, okG, ceG, okE, ceE, okR, ceR, okF, ceF, okX, ceX, okM, ceM, okN, ceN, okNf, ceNf, okNi, ceNi, ceA, roL, roC, roO, leL, leC, leO, tpP, tpC, tpO, clP, clC, clO, clF, clA, clT, clN, clL, nbP, nbC, nbO, nbN, nbL, toPVs, rowV_len]
    have ta : ((rowV a).map AV.pv).take 4 = (rowV a).map AV.pv := List.take_of_length_le (by simp [rowV_len])
    rw [ta]
    refine wCall_pure e3 ?_
    rintro v rfl
    simp [wNew, wBox, wCond, wBuild, fillS, wO, setCells, wSt, wLd, wPart, LFE, wFad, alive, wInt, wStr, wGK, wGd, wPick, wExt, wLen, wSlen, wNot, wNil, okI, ceI, okB, ceB, okS, ceS, okL, ceL, okC, ceC, okO, ceO, okP, ceP, okG, ceG, okE, ceE, okR, ceR, okF, ceF, okX, ceX, okM, ceM, okN, ceN, okNf, ceNf, okNi, ceNi, ceA, roL, roC, roO, leL, leC, leO, tpP, tpC, tpO, clP, clC, clO, clF, clA, clT, clN, clL, nbP, nbC, nbO, nbN, nbL, toPVs]
    refine p17_5 ?_
    simp only [wInt]
    refine ⟨⟨trivial, trivial⟩, wAri_fit (by omega) (by omega) ?_⟩
    exact ihj (i + 1) (by omega)

mutual
theorem valueEqual_spec : ∀ (a : Val), okV a → ∀ (x y : AV), VRep a x → VRep a y → PureC env 17 [x, y] fun r => r = BB true
  | .mk k n s es, ho, x, y, hx, hy => by
    obtain ⟨p, rfl, hp⟩ := hx
    obtain ⟨q, rfl, hq⟩ := hy
    simp only [okV] at ho
    have ih := valueEquals_spec es ho.2.2
    have l1 : (rowsV es).length = es.length := by simp [rowsV_eq]
    suffices H : ∀ Post : AV → Prop, Post (BB true) → P17_0 0 0 0 (.agg [I64 k, I64 n, SS s, p]) (.agg [I64 k, I64 n, SS s, q]) ⟨[], []⟩ (QP Post) from
      e17 (u0 := .agg [I64 k, I64 n, SS s, p]) (u1 := .agg [I64 k, I64 n, SS s, q]) (by simp [wNew, wBox, wCond, wBuild, fillS, wO, setCells, wSt, wLd, wPart, LFE, wFad, alive, wInt, wStr, wGK, wGd, wPick, wExt, wLen, wSlen, wNot, wNil, okI, ceI, okB, ceB, okS, ceS, okL, ceL, okC, ceC, okO, ceO, okP, ceP, okG, ceG, okE, ceE, okR, ceR, okF, ceF, okX, ceX, okM, ceM, okN, ceN, okNf, ceNf, okNi, ceNi, ceA, roL, roC, roO, leL, leC, leO, tpP, tpC, tpO, clP, clC, clO, clF, clA, clT, clN, clL, nbP, nbC, nbO, nbN, nbL, toPVs, hp.close, hq.close]) (H _ rfl)
    intro Post hPost
    refine p17_0 ?_
    simp [wNew, wBox, wCond, wBuild, fillS, wO, setCells, wSt, wLd, wPart, LFE, wFad, alive, wInt, wStr, wGK, wGd, wPick, wExt, wLen, wSlen, wNot, wNil, okI, ceI, okB, ceB, okS, ceS, okL, ceL, okC, ceC, okO, ceO, okP, ceP, okG, ceG, okE, ceE, okR, ceR, okF, ceF, okX, ceX, okM, ceM, okN, ceN, okNf, ceNf, okNi, ceNi, ceA, roL, roC, roO, leL, leC, leO, tpP, tpC, tpO, clP, clC, clO, clF, clA, clT, clN, clL, nbP, nbC, nbO, nbN, nbL, toPVs, hp.ok, hq.ok, bne, hp.lenA, hq.lenA]
    refine p17_1 ?_
    exact ve_loop hp hq (by omega) ih hPost es.length 0 (by omega)
theorem valueEquals_spec : ∀ (l : List Val), okVs l → ∀ a ∈ l, ∀ (x y : AV), VRep a x → VRep a y → PureC env 17 [x, y] fun r => r = BB true
  | [], _, _, h => by cases h
  | e :: l, ho, a, h => by
    simp only [okVs] at ho
    rcases List.mem_cons.1 h with h' | h'
    · rw [h']
      exact valueEqual_spec e ho.1
    · exact valueEquals_spec l ho.2 a h'
end

end Go.Proofs.YtdbilmjamgjkeaaGreatDoor

/-
  Values: the primitive operations of the program and of the reference.
-/
namespace Go.Proofs.YtdbilmjamgjkeaaGreatDoor
open Go.Tel

def intV (n : Int) : Val := .mk 1 n [] []
def boolV (b : Bool) : Val := .mk 2 (bif b then 1 else 0) [] []

/-- What both versions of Primitive return. -/
def prim (op : Int) : Val → Val → Val × Int
  | .mk k n s es, .mk k' n' s' es' =>
    let ints := k == 1 && k' == 1
    if op = 1 then (bif ints then (intV (IntKind.wrap .i64 (n + n')), 0) else (.mk 0 0 [] [], 3))
    else if op = 2 then (bif ints then (intV (IntKind.wrap .i64 (n - n')), 0) else (.mk 0 0 [] [], 3))
    else if op = 3 then (bif ints then (intV (IntKind.wrap .i64 (n * n')), 0) else (.mk 0 0 [] [], 3))
    else if op = 4 then (bif ints then (boolV (n < n'), 0) else (.mk 0 0 [] [], 3))
    else if op = 5 then (bif k == 2 && (n == 0 || n == 1) then (boolV (n == 0), 0) else (.mk 0 0 [] [], 3))
    else if op = 6 then (bif k == 3 && k' == 3 then (bif decide ((s.length : Int) + s'.length > 2000) then (.mk 0 0 [] [], 5) else (.mk 3 0 (s ++ s') [], 0)) else (.mk 0 0 [] [], 3))
    else if op = 7 then (boolV (ident (.mk k n s es) (.mk k' n' s' es')), 0)
    else (.mk 0 0 [] [], 3)

def opEntry (key kind : Int) (f : FuncId) (b : Nat) : MapEntry := ⟨.int .i64 key, .agg #[.int .i64 kind, .func (.func f) #[] #[]], b⟩
def opEntries : List MapEntry := [opEntry 1 1 119 0, opEntry 2 1 121 1, opEntry 3 1 122 2, opEntry 4 1 123 3, opEntry 6 3 124 4]

theorem operations_spec (L : Lim) (s : Sto) (hro : L.ro ≤ s.bs.length) : ∃ v s', (v = .mref s.bs.length ∧ s' = ⟨s.bs ++ [[.mobj opEntries 5]], s.ts⟩) ∧ CallE env L 57 [] s v s' := by
  refine m57 (p57_0 ?_)
  simp [wNew, wBox, wCond, wBuild, fillS, wO, setCells, wSt, wLd, wPart, LFE, wFad, alive, wInt, wStr, wGK, wGd, wPick, wExt, wLen, wSlen, wNot, wNil, okI, ceI, okB, ceB, okS, ceS, okL, ceL, okC, ceC, okO, ceO, okP, ceP, okG, ceG, okE, ceE, okR, ceR, okF, ceF, okX, ceX, okM, ceM, okN, ceN, okNf, ceNf, okNi, ceNi, ceA, roL, roC, roO, leL, leC, leO, tpP, tpC, tpO, clP, clC, clO, clF, clA, clT, clN, clL, nbP, nbC, nbO, nbN, nbL, toPVs, wMk, wIns1, lookMap, conc, concE, concCs, concC, findD, Instr.findNow, Instr.sameNow, get_app0, set_app0, hro, opEntries, opEntry]

section
variable {k n k' n' : Int} {s s' : List UInt8} {es es' : List Val} {p q : AV}

theorem clos_add (hp : RowsA p (rowsV es)) (hq : RowsA q (rowsV es')) : PureC env 119 [.agg [I64 k, I64 n, SS s, p], .agg [I64 k', I64 n', SS s', q]] fun r => r = .agg [I64 1, I64 (IntKind.wrap .i64 (n + n')), SS [], .capped []] := by
  refine e119 (by simp [noIdL, noId, hp.noId, hq.noId]) (p119_0 ?_)
  simp [wNew, wBox, wCond, wBuild, fillS, wO, setCells, wSt, wLd, wPart, LFE, wFad, alive, wInt, wStr, wGK, wGd, wPick, wExt, wLen, wSlen, wNot, wNil, okI, ceI, okB, ceB, okS, ceS, okL, ceL, okC, ceC, okO, ceO, okP, ceP, okG, ceG, okE, ceE, okR, ceR, okF, ceF, okX, ceX, okM, ceM, okN, ceN, okNf, ceNf, okNi, ceNi, ceA, roL, roC, roO, leL, leC, leO, tpP, tpC, tpO, clP, clC, clO, clF, clA, clT, clN, clL, nbP, nbC, nbO, nbN, nbL, toPVs, wAri, hp.ok, hq.ok]
  refine wCall_pure (intValue_spec _) ?_
  rintro v rfl
  simp [wNew, wBox, wCond, wBuild, fillS, wO, setCells, wSt, wLd, wPart, LFE, wFad, alive, wInt, wStr, wGK, wGd, wPick, wExt, wLen, wSlen, wNot, wNil, okI, ceI, okB, ceB, okS, ceS, okL, ceL, okC, ceC, okO, ceO, okP, ceP, okG, ceG, okE, ceE, okR, ceR, okF, ceF, okX, ceX, okM, ceM, okN, ceN, okNf, ceNf, okNi, ceNi, ceA, roL, roC, roO, leL, leC, leO, tpP, tpC, tpO, clP, clC, clO, clF, clA, clT, clN, clL, nbP, nbC, nbO, nbN, nbL, toPVs, QP, QI]

theorem clos_sub (hp : RowsA p (rowsV es)) (hq : RowsA q (rowsV es')) : PureC env 121 [.agg [I64 k, I64 n, SS s, p], .agg [I64 k', I64 n', SS s', q]] fun r => r = .agg [I64 1, I64 (IntKind.wrap .i64 (n - n')), SS [], .capped []] := by
  refine e121 (by simp [noIdL, noId, hp.noId, hq.noId]) (p121_0 ?_)
  simp [wNew, wBox, wCond, wBuild, fillS, wO, setCells, wSt, wLd, wPart, LFE, wFad, alive, wInt, wStr, wGK, wGd, wPick, wExt, wLen, wSlen, wNot, wNil, okI, ceI, okB, ceB, okS, ceS, okL, ceL, okC, ceC, okO, ceO, okP, ceP, okG, ceG, okE, ceE, okR, ceR, okF, ceF, okX, ceX, okM, ceM, okN, ceN, okNf, ceNf, okNi, ceNi, ceA, roL, roC, roO, leL, leC, leO, tpP, tpC, tpO, clP, clC, clO, clF, clA, clT, clN, clL, nbP, nbC, nbO, nbN, nbL, toPVs, wAri, hp.ok, hq.ok]
  refine wCall_pure (intValue_spec _) ?_
  rintro v rfl
  simp [wNew, wBox, wCond, wBuild, fillS, wO, setCells, wSt, wLd, wPart, LFE, wFad, alive, wInt, wStr, wGK, wGd, wPick, wExt, wLen, wSlen, wNot, wNil, okI, ceI, okB, ceB, okS, ceS, okL, ceL, okC, ceC, okO, ceO, okP, ceP, okG, ceG, okE, ceE, okR, ceR, okF, ceF, okX, ceX, okM, ceM, okN, ceN, okNf, ceNf, okNi, ceNi, ceA, roL, roC, roO, leL, leC, leO, tpP, tpC, tpO, clP, clC, clO, clF, clA, clT, clN, clL, nbP, nbC, nbO, nbN, nbL, toPVs, QP, QI]

theorem clos_mul (hp : RowsA p (rowsV es)) (hq : RowsA q (rowsV es')) : PureC env 122 [.agg [I64 k, I64 n, SS s, p], .agg [I64 k', I64 n', SS s', q]] fun r => r = .agg [I64 1, I64 (IntKind.wrap .i64 (n * n')), SS [], .capped []] := by
  refine e122 (by simp [noIdL, noId, hp.noId, hq.noId]) (p122_0 ?_)
  simp [wNew, wBox, wCond, wBuild, fillS, wO, setCells, wSt, wLd, wPart, LFE, wFad, alive, wInt, wStr, wGK, wGd, wPick, wExt, wLen, wSlen, wNot, wNil, okI, ceI, okB, ceB, okS, ceS, okL, ceL, okC, ceC, okO, ceO, okP, ceP, okG, ceG, okE, ceE, okR, ceR, okF, ceF, okX, ceX, okM, ceM, okN, ceN, okNf, ceNf, okNi, ceNi, ceA, roL, roC, roO, leL, leC, leO, tpP, tpC, tpO, clP, clC, clO, clF, clA, clT, clN, clL, nbP, nbC, nbO, nbN, nbL, toPVs, wAri, hp.ok, hq.ok]
  refine wCall_pure (intValue_spec _) ?_
  rintro v rfl
  simp [wNew, wBox, wCond, wBuild, fillS, wO, setCells, wSt, wLd, wPart, LFE, wFad, alive, wInt, wStr, wGK, wGd, wPick, wExt, wLen, wSlen, wNot, wNil, okI, ceI, okB, ceB, okS, ceS, okL, ceL, okC, ceC, okO, ceO, okP, ceP, okG, ceG, okE, ceE, okR, ceR, okF, ceF, okX, ceX, okM, ceM, okN, ceN, okNf, ceNf, okNi, ceNi, ceA, roL, roC, roO, leL, leC, leO, tpP, tpC, tpO, clP, clC, clO, clF, clA, clT, clN, clL, nbP, nbC, nbO, nbN, nbL, toPVs, QP, QI]

theorem clos_less (hp : RowsA p (rowsV es)) (hq : RowsA q (rowsV es')) : PureC env 123 [.agg [I64 k, I64 n, SS s, p], .agg [I64 k', I64 n', SS s', q]] fun r => r = .agg [I64 2, I64 (bif decide (n < n') then 1 else 0), SS [], .capped []] := by
  refine e123 (by simp [noIdL, noId, hp.noId, hq.noId]) (p123_0 ?_)
  simp [wNew, wBox, wCond, wBuild, fillS, wO, setCells, wSt, wLd, wPart, LFE, wFad, alive, wInt, wStr, wGK, wGd, wPick, wExt, wLen, wSlen, wNot, wNil, okI, ceI, okB, ceB, okS, ceS, okL, ceL, okC, ceC, okO, ceO, okP, ceP, okG, ceG, okE, ceE, okR, ceR, okF, ceF, okX, ceX, okM, ceM, okN, ceN, okNf, ceNf, okNi, ceNi, ceA, roL, roC, roO, leL, leC, leO, tpP, tpC, tpO, clP, clC, clO, clF, clA, clT, clN, clL, nbP, nbC, nbO, nbN, nbL, toPVs, wAri, hp.ok, hq.ok]
  refine wCall_pure (boolValue_spec _) ?_
  rintro v rfl
  simp [wNew, wBox, wCond, wBuild, fillS, wO, setCells, wSt, wLd, wPart, LFE, wFad, alive, wInt, wStr, wGK, wGd, wPick, wExt, wLen, wSlen, wNot, wNil, okI, ceI, okB, ceB, okS, ceS, okL, ceL, okC, ceC, okO, ceO, okP, ceP, okG, ceG, okE, ceE, okR, ceR, okF, ceF, okX, ceX, okM, ceM, okN, ceN, okNf, ceNf, okNi, ceNi, ceA, roL, roC, roO, leL, leC, leO, tpP, tpC, tpO, clP, clC, clO, clF, clA, clT, clN, clL, nbP, nbC, nbO, nbN, nbL, toPVs, QP, QI]

theorem clos_cat (hp : RowsA p (rowsV es)) (hq : RowsA q (rowsV es')) (hl : s.length + s'.length < 2 ^ 63) : PureC env 124 [.agg [I64 k, I64 n, SS s, p], .agg [I64 k', I64 n', SS s', q]] fun r => r = .agg [I64 3, I64 0, SS (s ++ s'), .capped []] := by
  refine e124 (by simp [noIdL, noId, hp.noId, hq.noId]) (p124_0 ?_)
  simp [wNew, wBox, wCond, wBuild, fillS, wO, setCells, wSt, wLd, wPart, LFE, wFad, alive, wInt, wStr, wGK, wGd, wPick, wExt, wLen, wSlen, wNot, wNil, okI, ceI, okB, ceB, okS, ceS, okL, ceL, okC, ceC, okO, ceO, okP, ceP, okG, ceG, okE, ceE, okR, ceR, okF, ceF, okX, ceX, okM, ceM, okN, ceN, okNf, ceNf, okNi, ceNi, ceA, roL, roC, roO, leL, leC, leO, tpP, tpC, tpO, clP, clC, clO, clF, clA, clT, clN, clL, nbP, nbC, nbO, nbN, nbL, toPVs, QP, QI, wAri, hp.ok, hq.ok]
  omega

end

end Go.Proofs.YtdbilmjamgjkeaaGreatDoor
