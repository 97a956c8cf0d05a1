/-
  ValueLimits: the concatenation of two strings.
-/
import Derived.Test.YtpmafnbhkhdaiaaGreatDoorL4
set_option linter.unusedSimpArgs false
set_option linter.unusedVariables false
namespace Go.Proofs.YtpmafnbhkhdaiaaGreatDoor
open Go.Tel
def opEntry (key kind : Int) (f : FuncId) (b : Nat) : MapEntry := ⟨.int .i64 key, .agg #[.int .i64 kind, .func (.func f) #[] #[]], b⟩
def opEntries : List MapEntry := [opEntry 1 1 55 0, opEntry 2 1 57 1, opEntry 3 1 58 2, opEntry 4 1 59 3, opEntry 6 3 60 4]
abbrev strV (l : List UInt8) : AV := .agg [I64 3, I64 0, SS l, .capped []]
section
variable {R : Nat → Option (List PV)}
theorem operations_spec (L : Lim) (s : Sto) (hro : L.ro ≤ s.bs.length) : CallE (env R) L 25 [] s (.mref s.bs.length) ⟨s.bs ++ [[.mobj opEntries 5]], s.ts⟩ := by
  obtain ⟨v, s', ⟨rfl, rfl⟩, h⟩ := m25 (R := R) (L := L) (s := s) (Post := fun v s' => v = .mref s.bs.length ∧ s' = ⟨s.bs ++ [[.mobj opEntries 5]], s.ts⟩) (by
    refine p25_0 ?_
    simp [wNew, wBox, wBoxZ, markT, wCond, wBuild, fillS, wO, setCells, wSt, wLd, wPart, LFE, wFad, alive, wInt, wStr, wGK, wGd, wPick, wExt, wLen, wSlen, wNot, wNil, okI, ceI, okB, ceB, okS, ceS, okL, ceL, okC, ceC, okO, ceO, okP, ceP, okG, ceG, okE, ceE, okR, ceR, okF, ceF, okX, ceX, okM, ceM, okN, ceN, okNf, ceNf, okNi, ceNi, ceA, roL, roC, roO, leL, leC, leO, tpP, tpC, tpO, clP, clC, clO, clF, clA, clT, clN, clL, nbP, nbC, nbO, nbN, nbL, toPVs, wMk, wIns1, lookMap, conc, concE, concCs, concC, findD, Instr.findNow, Instr.sameNow, get_app0, set_app0, hro, opEntries, opEntry])
  exact h
theorem cat_spec (a b : List UInt8) (hl : a.length + b.length < 2 ^ 63) : PureC (env R) 60 [strV a, strV b] fun r => r = strV (a ++ b) := by
  refine e60 (by simp [noIdL, noId]) (p60_0 ?_)
  simp [wNew, wBox, wBoxZ, markT, wCond, wBuild, fillS, wO, setCells, wSt, wLd, wPart, LFE, wFad, alive, wInt, wStr, wGK, wGd, wPick, wExt, wLen, wSlen, wNot, wNil, okI, ceI, okB, ceB, okS, ceS, okL, ceL, okC, ceC, okO, ceO, okP, ceP, okG, ceG, okE, ceE, okR, ceR, okF, ceF, okX, ceX, okM, ceM, okN, ceN, okNf, ceNf, okNi, ceNi, ceA, roL, roC, roO, leL, leC, leO, tpP, tpC, tpO, clP, clC, clO, clF, clA, clT, clN, clL, nbP, nbC, nbO, nbN, nbL, toPVs, QP, QI, wAri]
  omega
theorem find_op6 : findD (.int .i64) (.int .i64 6) opEntries = some (some (4, .agg #[.int .i64 3, .func (.func 60) #[] #[]])) := rfl
theorem ofEl_op6 : ofEl (.agg #[.int .i64 3, .func (.func 60) #[] #[]]) = .agg [I64 3, .func (.func 60) [] []] := rfl
def primR (a b : List UInt8) : AV := bif decide ((a.length : Int) + b.length > 2000) then .tuple [zeroV, I64 5] else .tuple [strV (a ++ b), I64 0]
set_option maxHeartbeats 4000000 in
set_option maxRecDepth 20000 in
theorem prim_spec (a b : List UInt8) (ha : a.length < 2 ^ 60) (hb : b.length < 2 ^ 60) : PureC (env R) 9 [I64 6, strV a, strV b] fun r => r = primR a b := by
  suffices H : ∀ Post : AV → Prop, Post (primR a b) → P9_0 R 0 0 0 (I64 6) (strV a) (strV b) ⟨[], []⟩ (QP Post) from
    e9 (u0 := I64 6) (u1 := strV a) (u2 := strV b) (by simp [wNew, wBox, wBoxZ, markT, wCond, wBuild, fillS, wO, setCells, wSt, wLd, wPart, LFE, wFad, alive, wInt, wStr, wGK, wGd, wPick, wExt, wLen, wSlen, wNot, wNil, okI, ceI, okB, ceB, okS, ceS, okL, ceL, okC, ceC, okO, ceO, okP, ceP, okG, ceG, okE, ceE, okR, ceR, okF, ceF, okX, ceX, okM, ceM, okN, ceN, okNf, ceNf, okNi, ceNi, ceA, roL, roC, roO, leL, leC, leO, tpP, tpC, tpO, clP, clC, clO, clF, clA, clT, clN, clL, nbP, nbC, nbO, nbN, nbL, toPVs]) (H _ rfl)
  intro Post hPost
  refine p9_0 ?_
  simp only [wBox, wNew, ceA, List.all_cons, List.all_nil, okI, okS, okC, Bool.and_true]
  refine ⟨trivial, trivial, ?_⟩
  refine wCall_ev (operations_spec _ _ (by simp [LFE])) ?_
  simp [-beq_iff_eq, -bne_iff_ne, -beq_eq_false_iff_ne, wNew, wBox, wBoxZ, markT, wCond, wBuild, fillS, wO, setCells, wSt, wLd, wPart, LFE, wFad, alive, wInt, wStr, wGK, wGd, wPick, wExt, wLen, wSlen, wNot, wNil, okI, ceI, okB, ceB, okS, ceS, okL, ceL, okC, ceC, okO, ceO, okP, ceP, okG, ceG, okE, ceE, okR, ceR, okF, ceF, okX, ceX, okM, ceM, okN, ceN, okNf, ceNf, okNi, ceNi, ceA, roL, roC, roO, leL, leC, leO, tpP, tpC, tpO, clP, clC, clO, clF, clA, clT, clN, clL, nbP, nbC, nbO, nbN, nbL, toPVs, wLook, lookMap, conc, find_op6, ofEl_op6, bne]
  unfold primR at hPost
  refine wAri_fit (by omega) (by omega) ?_
  simp only
  refine ⟨⟨trivial, trivial⟩, fun h => ?_, fun h => ?_⟩
  · simp [h] at hPost
    simpa [wNew, wBox, wBoxZ, markT, wCond, wBuild, fillS, wO, setCells, wSt, wLd, wPart, LFE, wFad, alive, wInt, wStr, wGK, wGd, wPick, wExt, wLen, wSlen, wNot, wNil, okI, ceI, okB, ceB, okS, ceS, okL, ceL, okC, ceC, okO, ceO, okP, ceP, okG, ceG, okE, ceE, okR, ceR, okF, ceF, okX, ceX, okM, ceM, okN, ceN, okNf, ceNf, okNi, ceNi, ceA, roL, roC, roO, leL, leC, leO, tpP, tpC, tpO, clP, clC, clO, clF, clA, clT, clN, clL, nbP, nbC, nbO, nbN, nbL, toPVs, QP, QI] using hPost
  · have h' : ¬ (2000 < (a.length : Int) + b.length) := by omega
    simp [h'] at hPost
    refine wCall_pure (cat_spec a b (by omega)) ?_
    rintro v rfl
    simpa [wNew, wBox, wBoxZ, markT, wCond, wBuild, fillS, wO, setCells, wSt, wLd, wPart, LFE, wFad, alive, wInt, wStr, wGK, wGd, wPick, wExt, wLen, wSlen, wNot, wNil, okI, ceI, okB, ceB, okS, ceS, okL, ceL, okC, ceC, okO, ceO, okP, ceP, okG, ceG, okE, ceE, okR, ceR, okF, ceF, okX, ceX, okM, ceM, okN, ceN, okNf, ceNf, okNi, ceNi, ceA, roL, roC, roO, leL, leC, leO, tpP, tpC, tpO, clP, clC, clO, clF, clA, clT, clN, clL, nbP, nbC, nbO, nbN, nbL, toPVs, QP, QI] using hPost
end
end Go.Proofs.YtpmafnbhkhdaiaaGreatDoor
