/-
  Values: Primitive of the program and of the reference answer alike.
-/
import Derived.Test.YtdbilmjamgjkeaaGreatDoorVa
set_option linter.unusedSimpArgs false
set_option linter.unusedVariables false
namespace Go.Proofs.YtdbilmjamgjkeaaGreatDoor
open Go.Tel

theorem ofEl_op (kind : Int) (f : FuncId) : ofEl (.agg #[.int .i64 kind, .func (.func f) #[] #[]]) = .agg [I64 kind, .func (.func f) [] []] := rfl

theorem find_op (op : Int) : findD (.int .i64) (.int .i64 op) opEntries = some (
    if op = 1 then some (0, .agg #[.int .i64 1, .func (.func 119) #[] #[]]) else if op = 2 then some (1, .agg #[.int .i64 1, .func (.func 121) #[] #[]])
    else if op = 3 then some (2, .agg #[.int .i64 1, .func (.func 122) #[] #[]]) else if op = 4 then some (3, .agg #[.int .i64 1, .func (.func 123) #[] #[]])
    else if op = 6 then some (4, .agg #[.int .i64 3, .func (.func 124) #[] #[]]) else none) := by
  by_cases h1 : op = 1
  · subst h1; rfl
  by_cases h2 : op = 2
  · subst h2; rfl
  by_cases h3 : op = 3
  · subst h3; rfl
  by_cases h4 : op = 4
  · subst h4; rfl
  by_cases h6 : op = 6
  · subst h6; rfl
  have e1 : (op == 1) = false := by simpa using h1
  have e2 : (op == 2) = false := by simpa using h2
  have e3 : (op == 3) = false := by simpa using h3
  have e4 : (op == 4) = false := by simpa using h4
  have e6 : (op == 6) = false := by simpa using h6
  simp [findD, Instr.findNow, Instr.sameNow, opEntries, opEntry, e1, e2, e3, e4, e6, h1, h2, h3, h4, h6]

def PrimPost (op : Int) (a b : Val) (r : AV) : Prop := ∃ v, r = .tuple [v, I64 (prim op a b).2] ∧ VRep (prim op a b).1 v

theorem VRep.mk (k n : Int) (s : List UInt8) : VRep (.mk k n s []) (.agg [I64 k, I64 n, SS s, .capped []]) := ⟨_, rfl, .capped _⟩

set_option maxHeartbeats 4000000 in
set_option maxRecDepth 20000 in
theorem primitive_spec (op : Int) {a b : Val} (ha : okV a) {x y : AV} (hx : VRep a x) (hy : VRep b y) (hb : okV b) : PureC env 13 [I64 op, x, y] (PrimPost op a b) := by
  have hid := identical_spec a ha b x y hx hy
  obtain ⟨k, n, s, es⟩ := a
  obtain ⟨k', n', s', es'⟩ := b
  obtain ⟨p, rfl, hp⟩ := hx
  obtain ⟨q, rfl, hq⟩ := hy
  simp only [okV] at ha hb
  suffices H : ∀ Post : AV → Prop, (∀ v, VRep (prim op (.mk k n s es) (.mk k' n' s' es')).1 v → Post (.tuple [v, I64 (prim op (.mk k n s es) (.mk k' n' s' es')).2])) → P13_0 0 0 0 (I64 op) (.agg [I64 k, I64 n, SS s, p]) (.agg [I64 k', I64 n', SS s', q]) ⟨[], []⟩ (QP Post) from
    e13 (u0 := I64 op) (u1 := .agg [I64 k, I64 n, SS s, p]) (u2 := .agg [I64 k', I64 n', SS s', q]) (by simp [wNew, wBox, wCond, wBuild, fillS, wO, setCells, wSt, wLd, wPart, LFE, wFad, alive, wInt, wStr, wGK, wGd, wPick, wExt, wLen, wSlen, wNot, wNil, okI, ceI, okB, ceB, okS, ceS, okL, ceL, okC, ceC, okO, ceO, okP, ceP, okG, ceG, okE, ceE, okR, ceR, okF, ceF, okX, ceX, okM, ceM, okN, ceN, okNf, ceNf, okNi, ceNi, ceA, roL, roC, roO, leL, leC, leO, tpP, tpC, tpO, clP, clC, clO, clF, clA, clT, clN, clL, nbP, nbC, nbO, nbN, nbL, toPVs, hp.close, hq.close]) (H _ fun v hv => ⟨v, rfl, hv⟩)
  intro Post hPost
  refine p13_0 ?_
  simp only [wBox, wNew, ceA, hp.ok, hq.ok, List.all_cons, List.all_nil, okI, okS, Bool.and_true]
  refine ⟨trivial, trivial, ?_⟩
  refine wCall_do (operations_spec _ _ (by simp [LFE])) ?_
  rintro v s1 ⟨rfl, rfl⟩
  have hl : (s.length : Int) < 2 ^ 61 := by omega
  have hl' : (s'.length : Int) < 2 ^ 61 := by omega
  by_cases h1 : op = 1
  · subst h1
    cases e1 : (k == 1) <;> cases e2 : (k' == 1) <;> simp [-beq_iff_eq, -bne_iff_ne, -beq_eq_false_iff_ne, wNew, wBox, wCond, wBuild, fillS, wO, setCells, wSt, wLd, wPart, LFE, wFad, alive, wInt, wStr, wGK, wGd, wPick, wExt, wLen, wSlen, wNot, wNil, okI, ceI, okB, ceB, okS, ceS, okL, ceL, okC, ceC, okO, ceO, okP, ceP, okG, ceG, okE, ceE, okR, ceR, okF, ceF, okX, ceX, okM, ceM, okN, ceN, okNf, ceNf, okNi, ceNi, ceA, roL, roC, roO, leL, leC, leO, tpP, tpC, tpO, clP, clC, clO, clF, clA, clT, clN, clL, nbP, nbC, nbO, nbN, nbL, toPVs, wLook, lookMap, conc, find_op, ofEl_op, bne, e1, e2] <;> simp [prim, e1, e2] at hPost
    · simpa [wNew, wBox, wCond, wBuild, fillS, wO, setCells, wSt, wLd, wPart, LFE, wFad, alive, wInt, wStr, wGK, wGd, wPick, wExt, wLen, wSlen, wNot, wNil, okI, ceI, okB, ceB, okS, ceS, okL, ceL, okC, ceC, okO, ceO, okP, ceP, okG, ceG, okE, ceE, okR, ceR, okF, ceF, okX, ceX, okM, ceM, okN, ceN, okNf, ceNf, okNi, ceNi, ceA, roL, roC, roO, leL, leC, leO, tpP, tpC, tpO, clP, clC, clO, clF, clA, clT, clN, clL, nbP, nbC, nbO, nbN, nbL, toPVs, QP, QI] using hPost _ (VRep.mk 0 0 [])
    · simpa [wNew, wBox, wCond, wBuild, fillS, wO, setCells, wSt, wLd, wPart, LFE, wFad, alive, wInt, wStr, wGK, wGd, wPick, wExt, wLen, wSlen, wNot, wNil, okI, ceI, okB, ceB, okS, ceS, okL, ceL, okC, ceC, okO, ceO, okP, ceP, okG, ceG, okE, ceE, okR, ceR, okF, ceF, okX, ceX, okM, ceM, okN, ceN, okNf, ceNf, okNi, ceNi, ceA, roL, roC, roO, leL, leC, leO, tpP, tpC, tpO, clP, clC, clO, clF, clA, clT, clN, clL, nbP, nbC, nbO, nbN, nbL, toPVs, QP, QI] using hPost _ (VRep.mk 0 0 [])
    · simpa [wNew, wBox, wCond, wBuild, fillS, wO, setCells, wSt, wLd, wPart, LFE, wFad, alive, wInt, wStr, wGK, wGd, wPick, wExt, wLen, wSlen, wNot, wNil, okI, ceI, okB, ceB, okS, ceS, okL, ceL, okC, ceC, okO, ceO, okP, ceP, okG, ceG, okE, ceE, okR, ceR, okF, ceF, okX, ceX, okM, ceM, okN, ceN, okNf, ceNf, okNi, ceNi, ceA, roL, roC, roO, leL, leC, leO, tpP, tpC, tpO, clP, clC, clO, clF, clA, clT, clN, clL, nbP, nbC, nbO, nbN, nbL, toPVs, QP, QI] using hPost _ (VRep.mk 0 0 [])
    · refine wCall_pure (clos_add hp hq) ?_
      rintro v rfl
      simpa [wNew, wBox, wCond, wBuild, fillS, wO, setCells, wSt, wLd, wPart, LFE, wFad, alive, wInt, wStr, wGK, wGd, wPick, wExt, wLen, wSlen, wNot, wNil, okI, ceI, okB, ceB, okS, ceS, okL, ceL, okC, ceC, okO, ceO, okP, ceP, okG, ceG, okE, ceE, okR, ceR, okF, ceF, okX, ceX, okM, ceM, okN, ceN, okNf, ceNf, okNi, ceNi, ceA, roL, roC, roO, leL, leC, leO, tpP, tpC, tpO, clP, clC, clO, clF, clA, clT, clN, clL, nbP, nbC, nbO, nbN, nbL, toPVs, QP, QI] using hPost _ (VRep.mk 1 _ [])
  by_cases h2 : op = 2
  · subst h2
    cases e1 : (k == 1) <;> cases e2 : (k' == 1) <;> simp [-beq_iff_eq, -bne_iff_ne, -beq_eq_false_iff_ne, wNew, wBox, wCond, wBuild, fillS, wO, setCells, wSt, wLd, wPart, LFE, wFad, alive, wInt, wStr, wGK, wGd, wPick, wExt, wLen, wSlen, wNot, wNil, okI, ceI, okB, ceB, okS, ceS, okL, ceL, okC, ceC, okO, ceO, okP, ceP, okG, ceG, okE, ceE, okR, ceR, okF, ceF, okX, ceX, okM, ceM, okN, ceN, okNf, ceNf, okNi, ceNi, ceA, roL, roC, roO, leL, leC, leO, tpP, tpC, tpO, clP, clC, clO, clF, clA, clT, clN, clL, nbP, nbC, nbO, nbN, nbL, toPVs, wLook, lookMap, conc, find_op, ofEl_op, bne, e1, e2] <;> simp [prim, e1, e2] at hPost
    · simpa [wNew, wBox, wCond, wBuild, fillS, wO, setCells, wSt, wLd, wPart, LFE, wFad, alive, wInt, wStr, wGK, wGd, wPick, wExt, wLen, wSlen, wNot, wNil, okI, ceI, okB, ceB, okS, ceS, okL, ceL, okC, ceC, okO, ceO, okP, ceP, okG, ceG, okE, ceE, okR, ceR, okF, ceF, okX, ceX, okM, ceM, okN, ceN, okNf, ceNf, okNi, ceNi, ceA, roL, roC, roO, leL, leC, leO, tpP, tpC, tpO, clP, clC, clO, clF, clA, clT, clN, clL, nbP, nbC, nbO, nbN, nbL, toPVs, QP, QI] using hPost _ (VRep.mk 0 0 [])
    · simpa [wNew, wBox, wCond, wBuild, fillS, wO, setCells, wSt, wLd, wPart, LFE, wFad, alive, wInt, wStr, wGK, wGd, wPick, wExt, wLen, wSlen, wNot, wNil, okI, ceI, okB, ceB, okS, ceS, okL, ceL, okC, ceC, okO, ceO, okP, ceP, okG, ceG, okE, ceE, okR, ceR, okF, ceF, okX, ceX, okM, ceM, okN, ceN, okNf, ceNf, okNi, ceNi, ceA, roL, roC, roO, leL, leC, leO, tpP, tpC, tpO, clP, clC, clO, clF, clA, clT, clN, clL, nbP, nbC, nbO, nbN, nbL, toPVs, QP, QI] using hPost _ (VRep.mk 0 0 [])
    · simpa [wNew, wBox, wCond, wBuild, fillS, wO, setCells, wSt, wLd, wPart, LFE, wFad, alive, wInt, wStr, wGK, wGd, wPick, wExt, wLen, wSlen, wNot, wNil, okI, ceI, okB, ceB, okS, ceS, okL, ceL, okC, ceC, okO, ceO, okP, ceP, okG, ceG, okE, ceE, okR, ceR, okF, ceF, okX, ceX, okM, ceM, okN, ceN, okNf, ceNf, okNi, ceNi, ceA, roL, roC, roO, leL, leC, leO, tpP, tpC, tpO, clP, clC, clO, clF, clA, clT, clN, clL, nbP, nbC, nbO, nbN, nbL, toPVs, QP, QI] using hPost _ (VRep.mk 0 0 [])
    · refine wCall_pure (clos_sub hp hq) ?_
      rintro v rfl
      simpa [wNew, wBox, wCond, wBuild, fillS, wO, setCells, wSt, wLd, wPart, LFE, wFad, alive, wInt, wStr, wGK, wGd, wPick, wExt, wLen, wSlen, wNot, wNil, okI, ceI, okB, ceB, okS, ceS, okL, ceL, okC, ceC, okO, ceO, okP, ceP, okG, ceG, okE, ceE, okR, ceR, okF, ceF, okX, ceX, okM, ceM, okN, ceN, okNf, ceNf, okNi, ceNi, ceA, roL, roC, roO, leL, leC, leO, tpP, tpC, tpO, clP, clC, clO, clF, clA, clT, clN, clL, nbP, nbC, nbO, nbN, nbL, toPVs, QP, QI] using hPost _ (VRep.mk 1 _ [])
  by_cases h3 : op = 3
  · subst h3
    cases e1 : (k == 1) <;> cases e2 : (k' == 1) <;> simp [-beq_iff_eq, -bne_iff_ne, -beq_eq_false_iff_ne, wNew, wBox, wCond, wBuild, fillS, wO, setCells, wSt, wLd, wPart, LFE, wFad, alive, wInt, wStr, wGK, wGd, wPick, wExt, wLen, wSlen, wNot, wNil, okI, ceI, okB, ceB, okS, ceS, okL, ceL, okC, ceC, okO, ceO, okP, ceP, okG, ceG, okE, ceE, okR, ceR, okF, ceF, okX, ceX, okM, ceM, okN, ceN, okNf, ceNf, okNi, ceNi, ceA, roL, roC, roO, leL, leC, leO, tpP, tpC, tpO, clP, clC, clO, clF, clA, clT, clN, clL, nbP, nbC, nbO, nbN, nbL, toPVs, wLook, lookMap, conc, find_op, ofEl_op, bne, e1, e2] <;> simp [prim, e1, e2] at hPost
    · simpa [wNew, wBox, wCond, wBuild, fillS, wO, setCells, wSt, wLd, wPart, LFE, wFad, alive, wInt, wStr, wGK, wGd, wPick, wExt, wLen, wSlen, wNot, wNil, okI, ceI, okB, ceB, okS, ceS, okL, ceL, okC, ceC, okO, ceO, okP, ceP, okG, ceG, okE, ceE, okR, ceR, okF, ceF, okX, ceX, okM, ceM, okN, ceN, okNf, ceNf, okNi, ceNi, ceA, roL, roC, roO, leL, leC, leO, tpP, tpC, tpO, clP, clC, clO, clF, clA, clT, clN, clL, nbP, nbC, nbO, nbN, nbL, toPVs, QP, QI] using hPost _ (VRep.mk 0 0 [])
    · simpa [wNew, wBox, wCond, wBuild, fillS, wO, setCells, wSt, wLd, wPart, LFE, wFad, alive, wInt, wStr, wGK, wGd, wPick, wExt, wLen, wSlen, wNot, wNil, okI, ceI, okB, ceB, okS, ceS, okL, ceL, okC, ceC, okO, ceO, okP, ceP, okG, ceG, okE, ceE, okR, ceR, okF, ceF, okX, ceX, okM, ceM, okN, ceN, okNf, ceNf, okNi, ceNi, ceA, roL, roC, roO, leL, leC, leO, tpP, tpC, tpO, clP, clC, clO, clF, clA, clT, clN, clL, nbP, nbC, nbO, nbN, nbL, toPVs, QP, QI] using hPost _ (VRep.mk 0 0 [])
    · simpa [wNew, wBox, wCond, wBuild, fillS, wO, setCells, wSt, wLd, wPart, LFE, wFad, alive, wInt, wStr, wGK, wGd, wPick, wExt, wLen, wSlen, wNot, wNil, okI, ceI, okB, ceB, okS, ceS, okL, ceL, okC, ceC, okO, ceO, okP, ceP, okG, ceG, okE, ceE, okR, ceR, okF, ceF, okX, ceX, okM, ceM, okN, ceN, okNf, ceNf, okNi, ceNi, ceA, roL, roC, roO, leL, leC, leO, tpP, tpC, tpO, clP, clC, clO, clF, clA, clT, clN, clL, nbP, nbC, nbO, nbN, nbL, toPVs, QP, QI] using hPost _ (VRep.mk 0 0 [])
    · refine wCall_pure (clos_mul hp hq) ?_
      rintro v rfl
      simpa [wNew, wBox, wCond, wBuild, fillS, wO, setCells, wSt, wLd, wPart, LFE, wFad, alive, wInt, wStr, wGK, wGd, wPick, wExt, wLen, wSlen, wNot, wNil, okI, ceI, okB, ceB, okS, ceS, okL, ceL, okC, ceC, okO, ceO, okP, ceP, okG, ceG, okE, ceE, okR, ceR, okF, ceF, okX, ceX, okM, ceM, okN, ceN, okNf, ceNf, okNi, ceNi, ceA, roL, roC, roO, leL, leC, leO, tpP, tpC, tpO, clP, clC, clO, clF, clA, clT, clN, clL, nbP, nbC, nbO, nbN, nbL, toPVs, QP, QI] using hPost _ (VRep.mk 1 _ [])
  by_cases h4 : op = 4
  · subst h4
    cases e1 : (k == 1) <;> cases e2 : (k' == 1) <;> simp [-beq_iff_eq, -bne_iff_ne, -beq_eq_false_iff_ne, wNew, wBox, wCond, wBuild, fillS, wO, setCells, wSt, wLd, wPart, LFE, wFad, alive, wInt, wStr, wGK, wGd, wPick, wExt, wLen, wSlen, wNot, wNil, okI, ceI, okB, ceB, okS, ceS, okL, ceL, okC, ceC, okO, ceO, okP, ceP, okG, ceG, okE, ceE, okR, ceR, okF, ceF, okX, ceX, okM, ceM, okN, ceN, okNf, ceNf, okNi, ceNi, ceA, roL, roC, roO, leL, leC, leO, tpP, tpC, tpO, clP, clC, clO, clF, clA, clT, clN, clL, nbP, nbC, nbO, nbN, nbL, toPVs, wLook, lookMap, conc, find_op, ofEl_op, bne, e1, e2] <;> simp [prim, e1, e2] at hPost
    · simpa [wNew, wBox, wCond, wBuild, fillS, wO, setCells, wSt, wLd, wPart, LFE, wFad, alive, wInt, wStr, wGK, wGd, wPick, wExt, wLen, wSlen, wNot, wNil, okI, ceI, okB, ceB, okS, ceS, okL, ceL, okC, ceC, okO, ceO, okP, ceP, okG, ceG, okE, ceE, okR, ceR, okF, ceF, okX, ceX, okM, ceM, okN, ceN, okNf, ceNf, okNi, ceNi, ceA, roL, roC, roO, leL, leC, leO, tpP, tpC, tpO, clP, clC, clO, clF, clA, clT, clN, clL, nbP, nbC, nbO, nbN, nbL, toPVs, QP, QI] using hPost _ (VRep.mk 0 0 [])
    · simpa [wNew, wBox, wCond, wBuild, fillS, wO, setCells, wSt, wLd, wPart, LFE, wFad, alive, wInt, wStr, wGK, wGd, wPick, wExt, wLen, wSlen, wNot, wNil, okI, ceI, okB, ceB, okS, ceS, okL, ceL, okC, ceC, okO, ceO, okP, ceP, okG, ceG, okE, ceE, okR, ceR, okF, ceF, okX, ceX, okM, ceM, okN, ceN, okNf, ceNf, okNi, ceNi, ceA, roL, roC, roO, leL, leC, leO, tpP, tpC, tpO, clP, clC, clO, clF, clA, clT, clN, clL, nbP, nbC, nbO, nbN, nbL, toPVs, QP, QI] using hPost _ (VRep.mk 0 0 [])
    · simpa [wNew, wBox, wCond, wBuild, fillS, wO, setCells, wSt, wLd, wPart, LFE, wFad, alive, wInt, wStr, wGK, wGd, wPick, wExt, wLen, wSlen, wNot, wNil, okI, ceI, okB, ceB, okS, ceS, okL, ceL, okC, ceC, okO, ceO, okP, ceP, okG, ceG, okE, ceE, okR, ceR, okF, ceF, okX, ceX, okM, ceM, okN, ceN, okNf, ceNf, okNi, ceNi, ceA, roL, roC, roO, leL, leC, leO, tpP, tpC, tpO, clP, clC, clO, clF, clA, clT, clN, clL, nbP, nbC, nbO, nbN, nbL, toPVs, QP, QI] using hPost _ (VRep.mk 0 0 [])
    · refine wCall_pure (clos_less hp hq) ?_
      rintro v rfl
      simpa [wNew, wBox, wCond, wBuild, fillS, wO, setCells, wSt, wLd, wPart, LFE, wFad, alive, wInt, wStr, wGK, wGd, wPick, wExt, wLen, wSlen, wNot, wNil, okI, ceI, okB, ceB, okS, ceS, okL, ceL, okC, ceC, okO, ceO, okP, ceP, okG, ceG, okE, ceE, okR, ceR, okF, ceF, okX, ceX, okM, ceM, okN, ceN, okNf, ceNf, okNi, ceNi, ceA, roL, roC, roO, leL, leC, leO, tpP, tpC, tpO, clP, clC, clO, clF, clA, clT, clN, clL, nbP, nbC, nbO, nbN, nbL, toPVs, QP, QI] using hPost _ (VRep.mk 2 _ [])
  by_cases h5 : op = 5
  · subst h5
    cases e1 : (k == 2) <;> cases e2 : (n == 0) <;> cases e3 : (n == 1) <;> simp [-beq_iff_eq, -bne_iff_ne, -beq_eq_false_iff_ne, wNew, wBox, wCond, wBuild, fillS, wO, setCells, wSt, wLd, wPart, LFE, wFad, alive, wInt, wStr, wGK, wGd, wPick, wExt, wLen, wSlen, wNot, wNil, okI, ceI, okB, ceB, okS, ceS, okL, ceL, okC, ceC, okO, ceO, okP, ceP, okG, ceG, okE, ceE, okR, ceR, okF, ceF, okX, ceX, okM, ceM, okN, ceN, okNf, ceNf, okNi, ceNi, ceA, roL, roC, roO, leL, leC, leO, tpP, tpC, tpO, clP, clC, clO, clF, clA, clT, clN, clL, nbP, nbC, nbO, nbN, nbL, toPVs, wLook, lookMap, conc, find_op, ofEl_op, bne, e1, e2, e3] <;> simp [prim, e1, e2, e3] at hPost
    · simpa [wNew, wBox, wCond, wBuild, fillS, wO, setCells, wSt, wLd, wPart, LFE, wFad, alive, wInt, wStr, wGK, wGd, wPick, wExt, wLen, wSlen, wNot, wNil, okI, ceI, okB, ceB, okS, ceS, okL, ceL, okC, ceC, okO, ceO, okP, ceP, okG, ceG, okE, ceE, okR, ceR, okF, ceF, okX, ceX, okM, ceM, okN, ceN, okNf, ceNf, okNi, ceNi, ceA, roL, roC, roO, leL, leC, leO, tpP, tpC, tpO, clP, clC, clO, clF, clA, clT, clN, clL, nbP, nbC, nbO, nbN, nbL, toPVs, QP, QI] using hPost _ (VRep.mk 0 0 [])
    · simpa [wNew, wBox, wCond, wBuild, fillS, wO, setCells, wSt, wLd, wPart, LFE, wFad, alive, wInt, wStr, wGK, wGd, wPick, wExt, wLen, wSlen, wNot, wNil, okI, ceI, okB, ceB, okS, ceS, okL, ceL, okC, ceC, okO, ceO, okP, ceP, okG, ceG, okE, ceE, okR, ceR, okF, ceF, okX, ceX, okM, ceM, okN, ceN, okNf, ceNf, okNi, ceNi, ceA, roL, roC, roO, leL, leC, leO, tpP, tpC, tpO, clP, clC, clO, clF, clA, clT, clN, clL, nbP, nbC, nbO, nbN, nbL, toPVs, QP, QI] using hPost _ (VRep.mk 0 0 [])
    · simpa [wNew, wBox, wCond, wBuild, fillS, wO, setCells, wSt, wLd, wPart, LFE, wFad, alive, wInt, wStr, wGK, wGd, wPick, wExt, wLen, wSlen, wNot, wNil, okI, ceI, okB, ceB, okS, ceS, okL, ceL, okC, ceC, okO, ceO, okP, ceP, okG, ceG, okE, ceE, okR, ceR, okF, ceF, okX, ceX, okM, ceM, okN, ceN, okNf, ceNf, okNi, ceNi, ceA, roL, roC, roO, leL, leC, leO, tpP, tpC, tpO, clP, clC, clO, clF, clA, clT, clN, clL, nbP, nbC, nbO, nbN, nbL, toPVs, QP, QI] using hPost _ (VRep.mk 0 0 [])
    · simpa [wNew, wBox, wCond, wBuild, fillS, wO, setCells, wSt, wLd, wPart, LFE, wFad, alive, wInt, wStr, wGK, wGd, wPick, wExt, wLen, wSlen, wNot, wNil, okI, ceI, okB, ceB, okS, ceS, okL, ceL, okC, ceC, okO, ceO, okP, ceP, okG, ceG, okE, ceE, okR, ceR, okF, ceF, okX, ceX, okM, ceM, okN, ceN, okNf, ceNf, okNi, ceNi, ceA, roL, roC, roO, leL, leC, leO, tpP, tpC, tpO, clP, clC, clO, clF, clA, clT, clN, clL, nbP, nbC, nbO, nbN, nbL, toPVs, QP, QI] using hPost _ (VRep.mk 0 0 [])
    · simpa [wNew, wBox, wCond, wBuild, fillS, wO, setCells, wSt, wLd, wPart, LFE, wFad, alive, wInt, wStr, wGK, wGd, wPick, wExt, wLen, wSlen, wNot, wNil, okI, ceI, okB, ceB, okS, ceS, okL, ceL, okC, ceC, okO, ceO, okP, ceP, okG, ceG, okE, ceE, okR, ceR, okF, ceF, okX, ceX, okM, ceM, okN, ceN, okNf, ceNf, okNi, ceNi, ceA, roL, roC, roO, leL, leC, leO, tpP, tpC, tpO, clP, clC, clO, clF, clA, clT, clN, clL, nbP, nbC, nbO, nbN, nbL, toPVs, QP, QI] using hPost _ (VRep.mk 0 0 [])
    all_goals
      refine wCall_pure (boolValue_spec _) ?_
      rintro v rfl
      simpa [wNew, wBox, wCond, wBuild, fillS, wO, setCells, wSt, wLd, wPart, LFE, wFad, alive, wInt, wStr, wGK, wGd, wPick, wExt, wLen, wSlen, wNot, wNil, okI, ceI, okB, ceB, okS, ceS, okL, ceL, okC, ceC, okO, ceO, okP, ceP, okG, ceG, okE, ceE, okR, ceR, okF, ceF, okX, ceX, okM, ceM, okN, ceN, okNf, ceNf, okNi, ceNi, ceA, roL, roC, roO, leL, leC, leO, tpP, tpC, tpO, clP, clC, clO, clF, clA, clT, clN, clL, nbP, nbC, nbO, nbN, nbL, toPVs, QP, QI] using hPost _ (VRep.mk 2 _ [])
  by_cases h6 : op = 6
  · subst h6
    cases e1 : (k == 3) <;> cases e2 : (k' == 3) <;> simp [-beq_iff_eq, -bne_iff_ne, -beq_eq_false_iff_ne, wNew, wBox, wCond, wBuild, fillS, wO, setCells, wSt, wLd, wPart, LFE, wFad, alive, wInt, wStr, wGK, wGd, wPick, wExt, wLen, wSlen, wNot, wNil, okI, ceI, okB, ceB, okS, ceS, okL, ceL, okC, ceC, okO, ceO, okP, ceP, okG, ceG, okE, ceE, okR, ceR, okF, ceF, okX, ceX, okM, ceM, okN, ceN, okNf, ceNf, okNi, ceNi, ceA, roL, roC, roO, leL, leC, leO, tpP, tpC, tpO, clP, clC, clO, clF, clA, clT, clN, clL, nbP, nbC, nbO, nbN, nbL, toPVs, wLook, lookMap, conc, find_op, ofEl_op, bne, e1, e2] <;> simp [prim, e1, e2] at hPost
    · simpa [wNew, wBox, wCond, wBuild, fillS, wO, setCells, wSt, wLd, wPart, LFE, wFad, alive, wInt, wStr, wGK, wGd, wPick, wExt, wLen, wSlen, wNot, wNil, okI, ceI, okB, ceB, okS, ceS, okL, ceL, okC, ceC, okO, ceO, okP, ceP, okG, ceG, okE, ceE, okR, ceR, okF, ceF, okX, ceX, okM, ceM, okN, ceN, okNf, ceNf, okNi, ceNi, ceA, roL, roC, roO, leL, leC, leO, tpP, tpC, tpO, clP, clC, clO, clF, clA, clT, clN, clL, nbP, nbC, nbO, nbN, nbL, toPVs, QP, QI] using hPost _ (VRep.mk 0 0 [])
    · simpa [wNew, wBox, wCond, wBuild, fillS, wO, setCells, wSt, wLd, wPart, LFE, wFad, alive, wInt, wStr, wGK, wGd, wPick, wExt, wLen, wSlen, wNot, wNil, okI, ceI, okB, ceB, okS, ceS, okL, ceL, okC, ceC, okO, ceO, okP, ceP, okG, ceG, okE, ceE, okR, ceR, okF, ceF, okX, ceX, okM, ceM, okN, ceN, okNf, ceNf, okNi, ceNi, ceA, roL, roC, roO, leL, leC, leO, tpP, tpC, tpO, clP, clC, clO, clF, clA, clT, clN, clL, nbP, nbC, nbO, nbN, nbL, toPVs, QP, QI] using hPost _ (VRep.mk 0 0 [])
    · simpa [wNew, wBox, wCond, wBuild, fillS, wO, setCells, wSt, wLd, wPart, LFE, wFad, alive, wInt, wStr, wGK, wGd, wPick, wExt, wLen, wSlen, wNot, wNil, okI, ceI, okB, ceB, okS, ceS, okL, ceL, okC, ceC, okO, ceO, okP, ceP, okG, ceG, okE, ceE, okR, ceR, okF, ceF, okX, ceX, okM, ceM, okN, ceN, okNf, ceNf, okNi, ceNi, ceA, roL, roC, roO, leL, leC, leO, tpP, tpC, tpO, clP, clC, clO, clF, clA, clT, clN, clL, nbP, nbC, nbO, nbN, nbL, toPVs, QP, QI] using hPost _ (VRep.mk 0 0 [])
    · refine wAri_fit (by omega) (by omega) ?_
      simp only
      refine ⟨⟨trivial, trivial⟩, fun h => ?_, fun h => ?_⟩
      · simp [h] at hPost
        simpa [wNew, wBox, wCond, wBuild, fillS, wO, setCells, wSt, wLd, wPart, LFE, wFad, alive, wInt, wStr, wGK, wGd, wPick, wExt, wLen, wSlen, wNot, wNil, okI, ceI, okB, ceB, okS, ceS, okL, ceL, okC, ceC, okO, ceO, okP, ceP, okG, ceG, okE, ceE, okR, ceR, okF, ceF, okX, ceX, okM, ceM, okN, ceN, okNf, ceNf, okNi, ceNi, ceA, roL, roC, roO, leL, leC, leO, tpP, tpC, tpO, clP, clC, clO, clF, clA, clT, clN, clL, nbP, nbC, nbO, nbN, nbL, toPVs, QP, QI] using hPost _ (VRep.mk 0 0 [])
      · have h' : ¬ (2000 < (s.length : Int) + s'.length) := by omega
        simp [h'] at hPost
        refine wCall_pure (clos_cat hp hq (by omega)) ?_
        rintro v rfl
        simpa [wNew, wBox, wCond, wBuild, fillS, wO, setCells, wSt, wLd, wPart, LFE, wFad, alive, wInt, wStr, wGK, wGd, wPick, wExt, wLen, wSlen, wNot, wNil, okI, ceI, okB, ceB, okS, ceS, okL, ceL, okC, ceC, okO, ceO, okP, ceP, okG, ceG, okE, ceE, okR, ceR, okF, ceF, okX, ceX, okM, ceM, okN, ceN, okNf, ceNf, okNi, ceNi, ceA, roL, roC, roO, leL, leC, leO, tpP, tpC, tpO, clP, clC, clO, clF, clA, clT, clN, clL, nbP, nbC, nbO, nbN, nbL, toPVs, QP, QI] using hPost _ (VRep.mk 3 0 (s ++ s'))
  by_cases h7 : op = 7
  · subst h7
    simp [-beq_iff_eq, -bne_iff_ne, -beq_eq_false_iff_ne, wNew, wBox, wCond, wBuild, fillS, wO, setCells, wSt, wLd, wPart, LFE, wFad, alive, wInt, wStr, wGK, wGd, wPick, wExt, wLen, wSlen, wNot, wNil, okI, ceI, okB, ceB, okS, ceS, okL, ceL, okC, ceC, okO, ceO, okP, ceP, okG, ceG, okE, ceE, okR, ceR, okF, ceF, okX, ceX, okM, ceM, okN, ceN, okNf, ceNf, okNi, ceNi, ceA, roL, roC, roO, leL, leC, leO, tpP, tpC, tpO, clP, clC, clO, clF, clA, clT, clN, clL, nbP, nbC, nbO, nbN, nbL, toPVs, wLook, lookMap, conc, find_op, ofEl_op, bne]
    simp [prim] at hPost
    refine wCall_pure hid ?_
    rintro v rfl
    refine wCall_pure (boolValue_spec _) ?_
    rintro v rfl
    simpa [wNew, wBox, wCond, wBuild, fillS, wO, setCells, wSt, wLd, wPart, LFE, wFad, alive, wInt, wStr, wGK, wGd, wPick, wExt, wLen, wSlen, wNot, wNil, okI, ceI, okB, ceB, okS, ceS, okL, ceL, okC, ceC, okO, ceO, okP, ceP, okG, ceG, okE, ceE, okR, ceR, okF, ceF, okX, ceX, okM, ceM, okN, ceN, okNf, ceNf, okNi, ceNi, ceA, roL, roC, roO, leL, leC, leO, tpP, tpC, tpO, clP, clC, clO, clF, clA, clT, clN, clL, nbP, nbC, nbO, nbN, nbL, toPVs, QP, QI] using hPost _ (VRep.mk 2 _ [])
  have e5 : (op == 5) = false := by simpa using h5
  have e6 : (op == 6) = false := by simpa using h6
  have e7 : (op == 7) = false := by simpa using h7
  simp [-beq_iff_eq, -bne_iff_ne, -beq_eq_false_iff_ne, wNew, wBox, wCond, wBuild, fillS, wO, setCells, wSt, wLd, wPart, LFE, wFad, alive, wInt, wStr, wGK, wGd, wPick, wExt, wLen, wSlen, wNot, wNil, okI, ceI, okB, ceB, okS, ceS, okL, ceL, okC, ceC, okO, ceO, okP, ceP, okG, ceG, okE, ceE, okR, ceR, okF, ceF, okX, ceX, okM, ceM, okN, ceN, okNf, ceNf, okNi, ceNi, ceA, roL, roC, roO, leL, leC, leO, tpP, tpC, tpO, clP, clC, clO, clF, clA, clT, clN, clL, nbP, nbC, nbO, nbN, nbL, toPVs, wLook, lookMap, conc, find_op, ofEl_op, bne, h1, h2, h3, h4, h6, e5, e6, e7]
  simp [prim, h1, h2, h3, h4, h5, h6, h7] at hPost
  simpa [wNew, wBox, wCond, wBuild, fillS, wO, setCells, wSt, wLd, wPart, LFE, wFad, alive, wInt, wStr, wGK, wGd, wPick, wExt, wLen, wSlen, wNot, wNil, okI, ceI, okB, ceB, okS, ceS, okL, ceL, okC, ceC, okO, ceO, okP, ceP, okG, ceG, okE, ceE, okR, ceR, okF, ceF, okX, ceX, okM, ceM, okN, ceN, okNf, ceNf, okNi, ceNi, ceA, roL, roC, roO, leL, leC, leO, tpP, tpC, tpO, clP, clC, clO, clF, clA, clT, clN, clL, nbP, nbC, nbO, nbN, nbL, toPVs, QP, QI] using hPost _ (VRep.mk 0 0 [])

set_option maxHeartbeats 4000000 in
set_option maxRecDepth 20000 in
theorem rprimitive_spec (op : Int) {a b : Val} (ha : okV a) {x y : AV} (hx : VRep a x) (hy : VRep b y) (hb : okV b) : PureC env 14 [I64 op, x, y] (PrimPost op a b) := by
  have hid := rident_spec a ha b hb x y hx hy
  have his := isBool_spec hx
  obtain ⟨k, n, s, es⟩ := a
  obtain ⟨k', n', s', es'⟩ := b
  obtain ⟨p, rfl, hp⟩ := hx
  obtain ⟨q, rfl, hq⟩ := hy
  simp only [okV] at ha hb
  suffices H : ∀ Post : AV → Prop, (∀ v, VRep (prim op (.mk k n s es) (.mk k' n' s' es')).1 v → Post (.tuple [v, I64 (prim op (.mk k n s es) (.mk k' n' s' es')).2])) → P14_0 0 0 0 (I64 op) (.agg [I64 k, I64 n, SS s, p]) (.agg [I64 k', I64 n', SS s', q]) ⟨[], []⟩ (QP Post) from
    e14 (u0 := I64 op) (u1 := .agg [I64 k, I64 n, SS s, p]) (u2 := .agg [I64 k', I64 n', SS s', q]) (by simp [wNew, wBox, wCond, wBuild, fillS, wO, setCells, wSt, wLd, wPart, LFE, wFad, alive, wInt, wStr, wGK, wGd, wPick, wExt, wLen, wSlen, wNot, wNil, okI, ceI, okB, ceB, okS, ceS, okL, ceL, okC, ceC, okO, ceO, okP, ceP, okG, ceG, okE, ceE, okR, ceR, okF, ceF, okX, ceX, okM, ceM, okN, ceN, okNf, ceNf, okNi, ceNi, ceA, roL, roC, roO, leL, leC, leO, tpP, tpC, tpO, clP, clC, clO, clF, clA, clT, clN, clL, nbP, nbC, nbO, nbN, nbL, toPVs, hp.close, hq.close]) (H _ fun v hv => ⟨v, rfl, hv⟩)
  intro Post hPost
  refine p14_0 ?_
  have hl : (s.length : Int) < 2 ^ 61 := by omega
  have hl' : (s'.length : Int) < 2 ^ 61 := by omega
  have bad : (∀ v, VRep (.mk 0 0 [] []) v → Post (.tuple [v, I64 3])) → P14_2 0 0 0 (.ptr 2 0) ⟨[[I64 k, I64 n, SS s, p], [I64 k', I64 n', SS s', q], [I64 0, I64 0, SS [], .capped []]], []⟩ (QP Post) := by
    intro hPost
    refine p14_2 ?_
    simpa [wNew, wBox, wCond, wBuild, fillS, wO, setCells, wSt, wLd, wPart, LFE, wFad, alive, wInt, wStr, wGK, wGd, wPick, wExt, wLen, wSlen, wNot, wNil, okI, ceI, okB, ceB, okS, ceS, okL, ceL, okC, ceC, okO, ceO, okP, ceP, okG, ceG, okE, ceE, okR, ceR, okF, ceF, okX, ceX, okM, ceM, okN, ceN, okNf, ceNf, okNi, ceNi, ceA, roL, roC, roO, leL, leC, leO, tpP, tpC, tpO, clP, clC, clO, clF, clA, clT, clN, clL, nbP, nbC, nbO, nbN, nbL, toPVs, QP, QI] using hPost _ (VRep.mk 0 0 [])
  by_cases h1 : op = 1
  · subst h1
    cases e1 : (k == 1) <;> cases e2 : (k' == 1) <;> simp [-beq_iff_eq, -bne_iff_ne, -beq_eq_false_iff_ne, wNew, wBox, wCond, wBuild, fillS, wO, setCells, wSt, wLd, wPart, LFE, wFad, alive, wInt, wStr, wGK, wGd, wPick, wExt, wLen, wSlen, wNot, wNil, okI, ceI, okB, ceB, okS, ceS, okL, ceL, okC, ceC, okO, ceO, okP, ceP, okG, ceG, okE, ceE, okR, ceR, okF, ceF, okX, ceX, okM, ceM, okN, ceN, okNf, ceNf, okNi, ceNi, ceA, roL, roC, roO, leL, leC, leO, tpP, tpC, tpO, clP, clC, clO, clF, clA, clT, clN, clL, nbP, nbC, nbO, nbN, nbL, toPVs, wAri, hp.ok, hq.ok, e1, e2] <;> simp [prim, e1, e2] at hPost
    · exact bad hPost
    · exact bad hPost
    · exact bad hPost
    · refine wCall_pure (int_spec _) ?_
      rintro v rfl
      simpa [wNew, wBox, wCond, wBuild, fillS, wO, setCells, wSt, wLd, wPart, LFE, wFad, alive, wInt, wStr, wGK, wGd, wPick, wExt, wLen, wSlen, wNot, wNil, okI, ceI, okB, ceB, okS, ceS, okL, ceL, okC, ceC, okO, ceO, okP, ceP, okG, ceG, okE, ceE, okR, ceR, okF, ceF, okX, ceX, okM, ceM, okN, ceN, okNf, ceNf, okNi, ceNi, ceA, roL, roC, roO, leL, leC, leO, tpP, tpC, tpO, clP, clC, clO, clF, clA, clT, clN, clL, nbP, nbC, nbO, nbN, nbL, toPVs, QP, QI] using hPost _ (VRep.mk 1 _ [])
  by_cases h2 : op = 2
  · subst h2
    cases e1 : (k == 1) <;> cases e2 : (k' == 1) <;> simp [-beq_iff_eq, -bne_iff_ne, -beq_eq_false_iff_ne, wNew, wBox, wCond, wBuild, fillS, wO, setCells, wSt, wLd, wPart, LFE, wFad, alive, wInt, wStr, wGK, wGd, wPick, wExt, wLen, wSlen, wNot, wNil, okI, ceI, okB, ceB, okS, ceS, okL, ceL, okC, ceC, okO, ceO, okP, ceP, okG, ceG, okE, ceE, okR, ceR, okF, ceF, okX, ceX, okM, ceM, okN, ceN, okNf, ceNf, okNi, ceNi, ceA, roL, roC, roO, leL, leC, leO, tpP, tpC, tpO, clP, clC, clO, clF, clA, clT, clN, clL, nbP, nbC, nbO, nbN, nbL, toPVs, wAri, hp.ok, hq.ok, e1, e2] <;> simp [prim, e1, e2] at hPost
    · exact bad hPost
    · exact bad hPost
    · exact bad hPost
    · refine wCall_pure (int_spec _) ?_
      rintro v rfl
      simpa [wNew, wBox, wCond, wBuild, fillS, wO, setCells, wSt, wLd, wPart, LFE, wFad, alive, wInt, wStr, wGK, wGd, wPick, wExt, wLen, wSlen, wNot, wNil, okI, ceI, okB, ceB, okS, ceS, okL, ceL, okC, ceC, okO, ceO, okP, ceP, okG, ceG, okE, ceE, okR, ceR, okF, ceF, okX, ceX, okM, ceM, okN, ceN, okNf, ceNf, okNi, ceNi, ceA, roL, roC, roO, leL, leC, leO, tpP, tpC, tpO, clP, clC, clO, clF, clA, clT, clN, clL, nbP, nbC, nbO, nbN, nbL, toPVs, QP, QI] using hPost _ (VRep.mk 1 _ [])
  by_cases h3 : op = 3
  · subst h3
    cases e1 : (k == 1) <;> cases e2 : (k' == 1) <;> simp [-beq_iff_eq, -bne_iff_ne, -beq_eq_false_iff_ne, wNew, wBox, wCond, wBuild, fillS, wO, setCells, wSt, wLd, wPart, LFE, wFad, alive, wInt, wStr, wGK, wGd, wPick, wExt, wLen, wSlen, wNot, wNil, okI, ceI, okB, ceB, okS, ceS, okL, ceL, okC, ceC, okO, ceO, okP, ceP, okG, ceG, okE, ceE, okR, ceR, okF, ceF, okX, ceX, okM, ceM, okN, ceN, okNf, ceNf, okNi, ceNi, ceA, roL, roC, roO, leL, leC, leO, tpP, tpC, tpO, clP, clC, clO, clF, clA, clT, clN, clL, nbP, nbC, nbO, nbN, nbL, toPVs, wAri, hp.ok, hq.ok, e1, e2] <;> simp [prim, e1, e2] at hPost
    · exact bad hPost
    · exact bad hPost
    · exact bad hPost
    · refine wCall_pure (int_spec _) ?_
      rintro v rfl
      simpa [wNew, wBox, wCond, wBuild, fillS, wO, setCells, wSt, wLd, wPart, LFE, wFad, alive, wInt, wStr, wGK, wGd, wPick, wExt, wLen, wSlen, wNot, wNil, okI, ceI, okB, ceB, okS, ceS, okL, ceL, okC, ceC, okO, ceO, okP, ceP, okG, ceG, okE, ceE, okR, ceR, okF, ceF, okX, ceX, okM, ceM, okN, ceN, okNf, ceNf, okNi, ceNi, ceA, roL, roC, roO, leL, leC, leO, tpP, tpC, tpO, clP, clC, clO, clF, clA, clT, clN, clL, nbP, nbC, nbO, nbN, nbL, toPVs, QP, QI] using hPost _ (VRep.mk 1 _ [])
  by_cases h4 : op = 4
  · subst h4
    cases e1 : (k == 1) <;> cases e2 : (k' == 1) <;> simp [-beq_iff_eq, -bne_iff_ne, -beq_eq_false_iff_ne, wNew, wBox, wCond, wBuild, fillS, wO, setCells, wSt, wLd, wPart, LFE, wFad, alive, wInt, wStr, wGK, wGd, wPick, wExt, wLen, wSlen, wNot, wNil, okI, ceI, okB, ceB, okS, ceS, okL, ceL, okC, ceC, okO, ceO, okP, ceP, okG, ceG, okE, ceE, okR, ceR, okF, ceF, okX, ceX, okM, ceM, okN, ceN, okNf, ceNf, okNi, ceNi, ceA, roL, roC, roO, leL, leC, leO, tpP, tpC, tpO, clP, clC, clO, clF, clA, clT, clN, clL, nbP, nbC, nbO, nbN, nbL, toPVs, wAri, hp.ok, hq.ok, e1, e2] <;> simp [prim, e1, e2] at hPost
    · exact bad hPost
    · exact bad hPost
    · exact bad hPost
    · refine wCall_pure (bool_spec _) ?_
      rintro v rfl
      simpa [wNew, wBox, wCond, wBuild, fillS, wO, setCells, wSt, wLd, wPart, LFE, wFad, alive, wInt, wStr, wGK, wGd, wPick, wExt, wLen, wSlen, wNot, wNil, okI, ceI, okB, ceB, okS, ceS, okL, ceL, okC, ceC, okO, ceO, okP, ceP, okG, ceG, okE, ceE, okR, ceR, okF, ceF, okX, ceX, okM, ceM, okN, ceN, okNf, ceNf, okNi, ceNi, ceA, roL, roC, roO, leL, leC, leO, tpP, tpC, tpO, clP, clC, clO, clF, clA, clT, clN, clL, nbP, nbC, nbO, nbN, nbL, toPVs, QP, QI] using hPost _ (VRep.mk 2 _ [])
  by_cases h5 : op = 5
  · subst h5
    cases e1 : (k == 1) <;> cases e2 : (k' == 1) <;> simp [-beq_iff_eq, -bne_iff_ne, -beq_eq_false_iff_ne, wNew, wBox, wCond, wBuild, fillS, wO, setCells, wSt, wLd, wPart, LFE, wFad, alive, wInt, wStr, wGK, wGd, wPick, wExt, wLen, wSlen, wNot, wNil, okI, ceI, okB, ceB, okS, ceS, okL, ceL, okC, ceC, okO, ceO, okP, ceP, okG, ceG, okE, ceE, okR, ceR, okF, ceF, okX, ceX, okM, ceM, okN, ceN, okNf, ceNf, okNi, ceNi, ceA, roL, roC, roO, leL, leC, leO, tpP, tpC, tpO, clP, clC, clO, clF, clA, clT, clN, clL, nbP, nbC, nbO, nbN, nbL, toPVs, wAri, hp.ok, hq.ok, e1, e2]
    all_goals
      refine wCall_pure his ?_
      rintro v rfl
      cases e3 : (k == 2) <;> cases e4 : (n == 0) <;> cases e5 : (n == 1) <;> simp [-beq_iff_eq, -bne_iff_ne, -beq_eq_false_iff_ne, wNew, wBox, wCond, wBuild, fillS, wO, setCells, wSt, wLd, wPart, LFE, wFad, alive, wInt, wStr, wGK, wGd, wPick, wExt, wLen, wSlen, wNot, wNil, okI, ceI, okB, ceB, okS, ceS, okL, ceL, okC, ceC, okO, ceO, okP, ceP, okG, ceG, okE, ceE, okR, ceR, okF, ceF, okX, ceX, okM, ceM, okN, ceN, okNf, ceNf, okNi, ceNi, ceA, roL, roC, roO, leL, leC, leO, tpP, tpC, tpO, clP, clC, clO, clF, clA, clT, clN, clL, nbP, nbC, nbO, nbN, nbL, toPVs, e3, e4, e5] <;> simp [prim, e3, e4, e5] at hPost <;> first
        | exact bad hPost
        | (refine wCall_pure (bool_spec _) ?_
           rintro v rfl
           simpa [wNew, wBox, wCond, wBuild, fillS, wO, setCells, wSt, wLd, wPart, LFE, wFad, alive, wInt, wStr, wGK, wGd, wPick, wExt, wLen, wSlen, wNot, wNil, okI, ceI, okB, ceB, okS, ceS, okL, ceL, okC, ceC, okO, ceO, okP, ceP, okG, ceG, okE, ceE, okR, ceR, okF, ceF, okX, ceX, okM, ceM, okN, ceN, okNf, ceNf, okNi, ceNi, ceA, roL, roC, roO, leL, leC, leO, tpP, tpC, tpO, clP, clC, clO, clF, clA, clT, clN, clL, nbP, nbC, nbO, nbN, nbL, toPVs, QP, QI] using hPost _ (VRep.mk 2 _ []))
  by_cases h6 : op = 6
  · subst h6
    cases e0 : (k == 1) <;> cases e3 : (k' == 1) <;> cases e1 : (k == 3) <;> cases e2 : (k' == 3) <;> simp [-beq_iff_eq, -bne_iff_ne, -beq_eq_false_iff_ne, wNew, wBox, wCond, wBuild, fillS, wO, setCells, wSt, wLd, wPart, LFE, wFad, alive, wInt, wStr, wGK, wGd, wPick, wExt, wLen, wSlen, wNot, wNil, okI, ceI, okB, ceB, okS, ceS, okL, ceL, okC, ceC, okO, ceO, okP, ceP, okG, ceG, okE, ceE, okR, ceR, okF, ceF, okX, ceX, okM, ceM, okN, ceN, okNf, ceNf, okNi, ceNi, ceA, roL, roC, roO, leL, leC, leO, tpP, tpC, tpO, clP, clC, clO, clF, clA, clT, clN, clL, nbP, nbC, nbO, nbN, nbL, toPVs, hp.ok, hq.ok, e0, e1, e2, e3] <;> simp [prim, e1, e2] at hPost
    all_goals first
      | exact bad hPost
      | skip
    all_goals
      refine wAri_fit (by omega) (by omega) ?_
      simp only
      refine ⟨⟨trivial, trivial⟩, fun h => ?_, fun h => p14_1 ?_⟩
      · simp [h] at hPost
        simpa [wNew, wBox, wCond, wBuild, fillS, wO, setCells, wSt, wLd, wPart, LFE, wFad, alive, wInt, wStr, wGK, wGd, wPick, wExt, wLen, wSlen, wNot, wNil, okI, ceI, okB, ceB, okS, ceS, okL, ceL, okC, ceC, okO, ceO, okP, ceP, okG, ceG, okE, ceE, okR, ceR, okF, ceF, okX, ceX, okM, ceM, okN, ceN, okNf, ceNf, okNi, ceNi, ceA, roL, roC, roO, leL, leC, leO, tpP, tpC, tpO, clP, clC, clO, clF, clA, clT, clN, clL, nbP, nbC, nbO, nbN, nbL, toPVs, QP, QI] using hPost _ (VRep.mk 0 0 [])
      · have h' : ¬ (2000 < (s.length : Int) + s'.length) := by omega
        simp [h'] at hPost
        have := hPost _ (VRep.mk 3 0 (s ++ s'))
        simpa [wNew, wBox, wCond, wBuild, fillS, wO, setCells, wSt, wLd, wPart, LFE, wFad, alive, wInt, wStr, wGK, wGd, wPick, wExt, wLen, wSlen, wNot, wNil, okI, ceI, okB, ceB, okS, ceS, okL, ceL, okC, ceC, okO, ceO, okP, ceP, okG, ceG, okE, ceE, okR, ceR, okF, ceF, okX, ceX, okM, ceM, okN, ceN, okNf, ceNf, okNi, ceNi, ceA, roL, roC, roO, leL, leC, leO, tpP, tpC, tpO, clP, clC, clO, clF, clA, clT, clN, clL, nbP, nbC, nbO, nbN, nbL, toPVs, QP, QI, show s.length + s'.length < 9223372036854775808 by omega] using this
  by_cases h7 : op = 7
  · subst h7
    cases e1 : (k == 1) <;> cases e2 : (k' == 1) <;> simp [-beq_iff_eq, -bne_iff_ne, -beq_eq_false_iff_ne, wNew, wBox, wCond, wBuild, fillS, wO, setCells, wSt, wLd, wPart, LFE, wFad, alive, wInt, wStr, wGK, wGd, wPick, wExt, wLen, wSlen, wNot, wNil, okI, ceI, okB, ceB, okS, ceS, okL, ceL, okC, ceC, okO, ceO, okP, ceP, okG, ceG, okE, ceE, okR, ceR, okF, ceF, okX, ceX, okM, ceM, okN, ceN, okNf, ceNf, okNi, ceNi, ceA, roL, roC, roO, leL, leC, leO, tpP, tpC, tpO, clP, clC, clO, clF, clA, clT, clN, clL, nbP, nbC, nbO, nbN, nbL, toPVs, wAri, hp.ok, hq.ok, e1, e2]
    all_goals
      simp [prim] at hPost
      refine wCall_pure hid ?_
      rintro v rfl
      refine wCall_pure (bool_spec _) ?_
      rintro v rfl
      simpa [wNew, wBox, wCond, wBuild, fillS, wO, setCells, wSt, wLd, wPart, LFE, wFad, alive, wInt, wStr, wGK, wGd, wPick, wExt, wLen, wSlen, wNot, wNil, okI, ceI, okB, ceB, okS, ceS, okL, ceL, okC, ceC, okO, ceO, okP, ceP, okG, ceG, okE, ceE, okR, ceR, okF, ceF, okX, ceX, okM, ceM, okN, ceN, okNf, ceNf, okNi, ceNi, ceA, roL, roC, roO, leL, leC, leO, tpP, tpC, tpO, clP, clC, clO, clF, clA, clT, clN, clL, nbP, nbC, nbO, nbN, nbL, toPVs, QP, QI] using hPost _ (VRep.mk 2 _ [])
  have e1 : (op == 1) = false := by simpa using h1
  have e2 : (op == 2) = false := by simpa using h2
  have e3 : (op == 3) = false := by simpa using h3
  have e4 : (op == 4) = false := by simpa using h4
  have e5 : (op == 5) = false := by simpa using h5
  have e6 : (op == 6) = false := by simpa using h6
  have e7 : (op == 7) = false := by simpa using h7
  simp [prim, h1, h2, h3, h4, h5, h6, h7] at hPost
  cases f1 : (k == 1) <;> cases f2 : (k' == 1) <;> simp [-beq_iff_eq, -bne_iff_ne, -beq_eq_false_iff_ne, wNew, wBox, wCond, wBuild, fillS, wO, setCells, wSt, wLd, wPart, LFE, wFad, alive, wInt, wStr, wGK, wGd, wPick, wExt, wLen, wSlen, wNot, wNil, okI, ceI, okB, ceB, okS, ceS, okL, ceL, okC, ceC, okO, ceO, okP, ceP, okG, ceG, okE, ceE, okR, ceR, okF, ceF, okX, ceX, okM, ceM, okN, ceN, okNf, ceNf, okNi, ceNi, ceA, roL, roC, roO, leL, leC, leO, tpP, tpC, tpO, clP, clC, clO, clF, clA, clT, clN, clL, nbP, nbC, nbO, nbN, nbL, toPVs, wAri, hp.ok, hq.ok, f1, f2, e1, e2, e3, e4, e5, e6, e7] <;> exact bad hPost

end Go.Proofs.YtdbilmjamgjkeaaGreatDoor
