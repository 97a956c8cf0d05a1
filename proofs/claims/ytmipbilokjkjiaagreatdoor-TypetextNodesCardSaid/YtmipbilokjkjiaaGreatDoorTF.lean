/-
  The reference's converter: tuples.
-/
import Derived.Test.YtmipbilokjkjiaaGreatDoorTE
set_option linter.unusedSimpArgs false
set_option linter.unusedVariables false
namespace Go.Proofs.YtmipbilokjkjiaaGreatDoor
open Go.Tel
attribute [local simp] wNew wBox wBoxZ markT wCond wBuild fillS wO setCells wSt wLd wPart LFE wFad alive wInt wStr wGK wGd wPick wExt wLen wSlen wNot wNil okI ceI okB ceB okS ceS okL ceL okC ceC okO ceO okP ceP okG ceG okE ceE okR ceR okF ceF okX ceX okM ceM okN ceN okNf ceNf okNi ceNi ceA roL roC roO leL leC leO tpP tpC tpO clP clC clO clF clA clT clN clL nbP nbC nbO nbN nbL toPVs
section
variable {R : Nat → Option (List PV)}
theorem conv_head {st hs' : List UInt8} {ho o : Int} {hc args : List Nd} {vars : List (List UInt8)} {v : AV} (hl : args.length < 2 ^ 60) (H : ∀ (a : AV) (L : Lim) (bs : List (List AV)) (id : Nat) (ts : List (Nat × TypeId)), RowsA a (rowsN (.mk 1 hs' hc ho :: args)) → L.ro ≤ id → L.rt ≤ ts.length → bs[id]? = some [I64 0, I64 0] → OkS ⟨bs, []⟩ →
      P47_3 R 0 L.ro L.rt (.ptr id 0) v (.ptr bs.length 0) (.ptr (bs.length + 1) 0) ⟨bs ++ [[I64 3, SS st, a, I64 o], [I64 0, SS [], I64 0, .capped []]], ts⟩ (QM (L.rr 47) bs.length fun r s' => ∃ y, s'.ts = ts ++ y ∧ CRes bs id (conv (.mk 3 st (.mk 1 hs' hc ho :: args) o) vars) r s'.bs)) :
    ConvS R (.mk 3 st (.mk 1 hs' hc ho :: args) o) vars v := by
  refine conv_begin fun k o' st' cs' a L bs id ts e ha hro hrt hid hs => ?_
  simp only [Nd.mk.injEq] at e
  obtain ⟨rfl, rfl, rfl, rfl⟩ := e
  have := H a L bs id ts ha hro hrt hid hs
  have hn0 : ¬ ((args.length : Int) + 1 = 0) := by omega
  have bn0 : ((args.length : Int) + 1 == 0) = false := by simpa using hn0
  refine p47_1 ?_
  simp [get_app, get_app0]
  refine p47_2 ?_
  simp [get_app, get_app0, ha.lenA, rowsN_len, hn0, bn0]
  refine wIdx_rows ha (row := rowN (.mk 1 hs' hc ho)) (by omega) (by simp [rowsN]) (rowN_len _) (by omega) ?_
  simp [rowN, get_app, get_app0, hn0, bn0]
  simpa using this
theorem rconv_tuple {st : List UInt8} {ho o : Int} {hc args : List Nd} {vars : List (List UInt8)} {v : AV} (hl : args.length < 2 ^ 38) (ih : ∀ c ∈ args, ConvS R c vars v) : ConvS R (.mk 3 st (.mk 1 [116, 117, 112, 108, 101] hc ho :: args) o) vars v := by
  have hlen := hl
  refine conv_head (by omega) fun a L bs id ts ha hro hrt hid hs => ?_
  have hcv : conv (.mk 3 st (.mk 1 [116, 117, 112, 108, 101] hc ho :: args) o) vars = listR 3 [] [] (convL args vars) := by
    rw [conv_cons]
    rfl
  rw [hcv]
  have hlt : id < bs.length := (List.getElem?_eq_some_iff.1 hid).1
  refine p47_3 ?_
  simp [get_app, get_app0]
  refine wIdx_rows ha (row := rowN (.mk 1 [116, 117, 112, 108, 101] hc ho)) (by omega) (by simp [rowsN]) (rowN_len _) (by omega) ?_
  simp [rowN, get_app, get_app0]
  refine slc1 ha ?_
  have hm : ∀ b ∈ [I64 3, SS st, a, I64 o] :: [I64 0, SS [], I64 0, .capped []] :: [[I64 1, SS [116, 117, 112, 108, 101], .pv (.list (rowsN hc)), I64 ho]], ∀ n, idsLtL n b = true := by
    intro b hb n
    simp only [List.mem_cons, List.not_mem_nil, or_false] at hb
    rcases hb with rfl | rfl | rfl <;> simp [idsLtL, idsLt, ha.idsLt]
  have := list_tail (R := R) (args := args) (vars := vars) (v := v) (ts := ts) (B := [I64 3, SS st, a, I64 o]) (Z := [I64 0, SS [], I64 0, .capped []]) (more := [[I64 1, SS [116, 117, 112, 108, 101], .pv (.list (rowsN hc)), I64 ho]]) (L := L) (L' := LFE (env R) 47 0 L.ro L.rt) (rr := L.rr 47) (kd := 3) hl ih hid hs rfl hro hrt rfl hm
  have g1 : L.ro ≤ bs.length + 2 := by omega
  simp [get_app, get_app0, set_app, set_app0, eqA_rowsN ha, eqA, eqAL, eqP, eqV_int, eqV_str, eqPL, eqPLL_rowsN]
  refine ⟨g1, wIdx_rows ha (row := rowN (.mk 1 [116, 117, 112, 108, 101] hc ho)) (by omega) (by simp [rowsN]) (rowN_len _) (by omega) (by simp [rowN, eqA, eqPL, eqP, eqV_int, eqV_str, eqPLL_rowsN]), slc1 ha (by simp [eqA, eqP, eqPLL_rowsN]), slc1 ha (by simp [eqA, eqP, eqPLL_rowsN]), ?_⟩
  simpa using this
end
end Go.Proofs.YtmipbilokjkjiaaGreatDoor
/-
  The reference's converter: unions.
-/
namespace Go.Proofs.YtmipbilokjkjiaaGreatDoor
open Go.Tel
attribute [local simp] wNew wBox wBoxZ markT wCond wBuild fillS wO setCells wSt wLd wPart LFE wFad alive wInt wStr wGK wGd wPick wExt wLen wSlen wNot wNil okI ceI okB ceB okS ceS okL ceL okC ceC okO ceO okP ceP okG ceG okE ceE okR ceR okF ceF okX ceX okM ceM okN ceN okNf ceNf okNi ceNi ceA roL roC roO leL leC leO tpP tpC tpO clP clC clO clF clA clT clN clL nbP nbC nbO nbN nbL toPVs
section
variable {R : Nat → Option (List PV)}
theorem rconv_union {st : List UInt8} {ho o : Int} {hc args : List Nd} {vars : List (List UInt8)} {v : AV} (h2 : 2 ≤ args.length) (hl : args.length < 2 ^ 38) (ih : ∀ c ∈ args, ConvS R c vars v) : ConvS R (.mk 3 st (.mk 1 [117, 110, 105, 111, 110] hc ho :: args) o) vars v := by
  have hlen := hl
  refine conv_head (by omega) fun a L bs id ts ha hro hrt hid hs => ?_
  have hcv : conv (.mk 3 st (.mk 1 [117, 110, 105, 111, 110] hc ho :: args) o) vars = listR 4 [] [] (convL args vars) := by
    rw [conv_cons, decide_eq_true h2]
    rfl
  rw [hcv]
  have hlt : id < bs.length := (List.getElem?_eq_some_iff.1 hid).1
  refine p47_3 ?_
  simp [get_app, get_app0]
  refine wIdx_rows ha (row := rowN (.mk 1 [117, 110, 105, 111, 110] hc ho)) (by omega) (by simp [rowsN]) (rowN_len _) (by omega) ?_
  simp [rowN, get_app, get_app0]
  refine slc1 ha ?_
  have hm : ∀ b ∈ [I64 3, SS st, a, I64 o] :: [I64 0, SS [], I64 0, .capped []] :: [[I64 1, SS [117, 110, 105, 111, 110], .pv (.list (rowsN hc)), I64 ho]], ∀ n, idsLtL n b = true := by
    intro b hb n
    simp only [List.mem_cons, List.not_mem_nil, or_false] at hb
    rcases hb with rfl | rfl | rfl <;> simp [idsLtL, idsLt, ha.idsLt]
  have := list_tail (R := R) (args := args) (vars := vars) (v := v) (ts := ts) (B := [I64 3, SS st, a, I64 o]) (Z := [I64 0, SS [], I64 0, .capped []]) (more := [[I64 1, SS [117, 110, 105, 111, 110], .pv (.list (rowsN hc)), I64 ho]]) (L := L) (L' := LFE (env R) 47 0 L.ro L.rt) (rr := L.rr 47) (kd := 4) hl ih hid hs rfl hro hrt rfl hm
  have g1 : L.ro ≤ bs.length + 2 := by omega
  have h2' : ¬ ((args.length : Int) < 2) := by omega
  simp [get_app, get_app0, set_app, set_app0, rowsN_len, h2', eqA_rowsN ha, eqA, eqAL, eqP, eqV_int, eqV_str, eqPL, eqPLL_rowsN]
  refine ⟨g1, wIdx_rows ha (row := rowN (.mk 1 [117, 110, 105, 111, 110] hc ho)) (by omega) (by simp [rowsN]) (rowN_len _) (by omega) (by simp [rowN, eqA, eqPL, eqP, eqV_int, eqV_str, eqPLL_rowsN]), slc1 ha (by simp [eqA, eqP, eqPLL_rowsN]), slc1 ha (by simp [eqA, eqP, eqPLL_rowsN]), ?_⟩
  refine fun _ => p47_4 ?_
  simpa using this
theorem rconv_short {st : List UInt8} {ho o : Int} {hc args : List Nd} {vars : List (List UInt8)} {v : AV} (h2 : ¬ 2 ≤ args.length) (hl : args.length < 2 ^ 38) : ConvS R (.mk 3 st (.mk 1 [117, 110, 105, 111, 110] hc ho :: args) o) vars v := by
  have hlen := hl
  refine conv_head (by omega) fun a L bs id ts ha hro hrt hid hs => ?_
  have hcv : conv (.mk 3 st (.mk 1 [117, 110, 105, 111, 110] hc ho :: args) o) vars = Sum.inl o := by
    rw [conv_cons, decide_eq_false h2]
    rfl
  rw [hcv]
  have hlt : id < bs.length := (List.getElem?_eq_some_iff.1 hid).1
  refine p47_3 ?_
  simp [get_app, get_app0]
  refine wIdx_rows ha (row := rowN (.mk 1 [117, 110, 105, 111, 110] hc ho)) (by omega) (by simp [rowsN]) (rowN_len _) (by omega) ?_
  simp [rowN, get_app, get_app0]
  refine slc1 ha ?_
  have hm : ∀ b ∈ [I64 3, SS st, a, I64 o] :: [I64 0, SS [], I64 0, .capped []] :: [[I64 1, SS [117, 110, 105, 111, 110], .pv (.list (rowsN hc)), I64 ho]], ∀ n, idsLtL n b = true := by
    intro b hb n
    simp only [List.mem_cons, List.not_mem_nil, or_false] at hb
    rcases hb with rfl | rfl | rfl <;> simp [idsLtL, idsLt, ha.idsLt]
  have := fail_tail (R := R) (ts := ts) (B := [I64 3, SS st, a, I64 o]) (Z := [I64 0, SS [], I64 0, .capped []]) (more := [[I64 1, SS [117, 110, 105, 111, 110], .pv (.list (rowsN hc)), I64 ho]]) (L := L) (L' := LFE (env R) 47 0 L.ro L.rt) (rr := L.rr 47) (k := 3) (o := o) (st := st) hid hs rfl hro rfl ha hm
  have g1 : L.ro ≤ bs.length + 2 := by omega
  have h2' : ((args.length : Int) < 2) := by omega
  simp [get_app, get_app0, set_app, set_app0, rowsN_len, h2', eqA_rowsN ha, eqA, eqAL, eqP, eqV_int, eqV_str, eqPL, eqPLL_rowsN]
  refine ⟨g1, wIdx_rows ha (row := rowN (.mk 1 [117, 110, 105, 111, 110] hc ho)) (by omega) (by simp [rowsN]) (rowN_len _) (by omega) (by simp [rowN, eqA, eqPL, eqP, eqV_int, eqV_str, eqPLL_rowsN]), slc1 ha (by simp [eqA, eqP, eqPLL_rowsN]), slc1 ha (by simp [eqA, eqP, eqPLL_rowsN]), ?_⟩
  refine ⟨by simpa using this, fun h => ?_⟩
  omega
end
end Go.Proofs.YtmipbilokjkjiaaGreatDoor
/-
  The reference's converter: nominal types.
-/
namespace Go.Proofs.YtmipbilokjkjiaaGreatDoor
open Go.Tel
attribute [local simp] wNew wBox wBoxZ markT wCond wBuild fillS wO setCells wSt wLd wPart LFE wFad alive wInt wStr wGK wGd wPick wExt wLen wSlen wNot wNil okI ceI okB ceB okS ceS okL ceL okC ceC okO ceO okP ceP okG ceG okE ceE okR ceR okF ceF okX ceX okM ceM okN ceN okNf ceNf okNi ceNi ceA roL roC roO leL leC leO tpP tpC tpO clP clC clO clF clA clT clN clL nbP nbC nbO nbN nbL toPVs
section
variable {R : Nat → Option (List PV)}
/-- A list whose head is an ordinary word: from its head on. -/
theorem conv_ord {st hs' : List UInt8} {ho o : Int} {hc args : List Nd} {vars : List (List UInt8)} {v : AV} (hl : args.length < 2 ^ 60) (hE : ¬ hs' = [101, 120, 105, 115, 116, 115]) (hT : ¬ hs' = [116, 117, 112, 108, 101]) (hU : ¬ hs' = [117, 110, 105, 111, 110])
    (H : ∀ (a : AV) (L : Lim) (bs : List (List AV)) (id : Nat) (ts : List (Nat × TypeId)), RowsA a (rowsN (.mk 1 hs' hc ho :: args)) → L.ro ≤ id → L.rt ≤ ts.length → bs[id]? = some [I64 0, I64 0] → OkS ⟨bs, []⟩ →
      P47_6 R 0 L.ro L.rt (.ptr id 0) v (.ptr bs.length 0) (.ptr (bs.length + 1) 0) (.ptr (bs.length + 2) 0) (.pv (.list (rowsN args))) ⟨bs ++ [[I64 3, SS st, a, I64 o], [I64 0, SS [], I64 0, .capped []], [I64 1, SS hs', .pv (.list (rowsN hc)), I64 ho]], ts⟩
        (QM (L.rr 47) bs.length fun r s' => ∃ y, s'.ts = ts ++ y ∧ CRes bs id (conv (.mk 3 st (.mk 1 hs' hc ho :: args) o) vars) r s'.bs)) :
    ConvS R (.mk 3 st (.mk 1 hs' hc ho :: args) o) vars v := by
  refine conv_head hl fun a L bs id ts ha hro hrt hid hs => ?_
  have this := H a L bs id ts ha hro hrt hid hs
  have hlt : id < bs.length := (List.getElem?_eq_some_iff.1 hid).1
  refine p47_3 ?_
  simp [get_app, get_app0]
  refine wIdx_rows ha (row := rowN (.mk 1 hs' hc ho)) (by omega) (by simp [rowsN]) (rowN_len _) (by omega) ?_
  simp [rowN, get_app, get_app0]
  refine slc1 ha ?_
  have g1 : L.ro ≤ bs.length + 2 := by omega
  simp [get_app, get_app0, set_app, set_app0, eqA_rowsN ha, eqA, eqAL, eqP, eqV_int, eqV_str, eqPL, eqPLL_rowsN, hE, hT, hU]
  refine ⟨g1, wIdx_rows ha (row := rowN (.mk 1 hs' hc ho)) (by omega) (by simp [rowsN]) (rowN_len _) (by omega) (by simp [rowN, eqA, eqPL, eqP, eqV_int, eqV_str, eqPLL_rowsN]), slc1 ha (by simp [eqA, eqP, eqPLL_rowsN]), slc1 ha (by simp [eqA, eqP, eqPLL_rowsN]), ?_⟩
  simpa using this
theorem three_ok {o ho : Int} {st hs' : List UInt8} {a : AV} {rows : List (List PV)} {hc : List Nd} (ha : RowsA a rows) : ∀ b ∈ [I64 3, SS st, a, I64 o] :: [I64 0, SS [], I64 0, .capped []] :: [[I64 1, SS hs', .pv (.list (rowsN hc)), I64 ho]], ∀ n, idsLtL n b = true := by
  intro b hb n
  simp only [List.mem_cons, List.not_mem_nil, or_false] at hb
  rcases hb with rfl | rfl | rfl <;> simp [idsLtL, idsLt, ha.idsLt]
theorem rconv_noargs {st hs' : List UInt8} {ho o : Int} {hc : List Nd} {vars : List (List UInt8)} {v : AV} (hE : ¬ hs' = [101, 120, 105, 115, 116, 115]) (hT : ¬ hs' = [116, 117, 112, 108, 101]) (hU : ¬ hs' = [117, 110, 105, 111, 110]) : ConvS R (.mk 3 st [.mk 1 hs' hc ho] o) vars v := by
  refine conv_ord (by simp) hE hT hU fun a L bs id ts ha hro hrt hid hs => ?_
  have bE : (hs' == [101, 120, 105, 115, 116, 115]) = false := by simpa using hE
  have bT : (hs' == [116, 117, 112, 108, 101]) = false := by simpa using hT
  have bU : (hs' == [117, 110, 105, 111, 110]) = false := by simpa using hU
  have hcv : conv (.mk 3 st [.mk 1 hs' hc ho] o) vars = .inl o := by
    rw [conv_cons, bE, bT, bU]
    rfl
  rw [hcv]
  refine p47_6 ?_
  have := fail_tail (R := R) (ts := ts) (B := [I64 3, SS st, a, I64 o]) (Z := [I64 0, SS [], I64 0, .capped []]) (more := [[I64 1, SS hs', .pv (.list (rowsN hc)), I64 ho]]) (L := L) (L' := LFE (env R) 47 0 L.ro L.rt) (rr := L.rr 47) (k := 3) (o := o) (st := st) hid hs rfl hro rfl ha (three_ok ha)
  simp [rowsN, get_app, get_app0]
  simpa using this
end
end Go.Proofs.YtmipbilokjkjiaaGreatDoor
/-
  The reference's converter: nominal types with arguments.
-/
namespace Go.Proofs.YtmipbilokjkjiaaGreatDoor
open Go.Tel
attribute [local simp] wNew wBox wBoxZ markT wCond wBuild fillS wO setCells wSt wLd wPart LFE wFad alive wInt wStr wGK wGd wPick wExt wLen wSlen wNot wNil okI ceI okB ceB okS ceS okL ceL okC ceC okO ceO okP ceP okG ceG okE ceE okR ceR okF ceF okX ceX okM ceM okN ceN okNf ceNf okNi ceNi ceA roL roC roO leL leC leO tpP tpC tpO clP clC clO clF clA clT clN clL nbP nbC nbO nbN nbL toPVs
section
variable {R : Nat → Option (List PV)}
theorem rconv_named {st hs' : List UInt8} {ho o : Int} {hc args : List Nd} {vars : List (List UInt8)} {v : AV} (hE : ¬ hs' = [101, 120, 105, 115, 116, 115]) (hT : ¬ hs' = [116, 117, 112, 108, 101]) (hU : ¬ hs' = [117, 110, 105, 111, 110]) (h0 : args.length ≠ 0) (hh : hs'.length < 2 ^ 60)
    (hl : args.length < 2 ^ 38) (ih : ∀ c ∈ args, ConvS R c vars v) : ConvS R (.mk 3 st (.mk 1 hs' hc ho :: args) o) vars v := by
  have hlen := hl
  refine conv_ord (by omega) hE hT hU fun a L bs id ts ha hro hrt hid hs => ?_
  have hlt : id < bs.length := (List.getElem?_eq_some_iff.1 hid).1
  have bE : (hs' == [101, 120, 105, 115, 116, 115]) = false := by simpa using hE
  have bT : (hs' == [116, 117, 112, 108, 101]) = false := by simpa using hT
  have bU : (hs' == [117, 110, 105, 111, 110]) = false := by simpa using hU
  have b0 : (args.length == 0) = false := by simpa using h0
  have hcv : conv (.mk 3 st (.mk 1 hs' hc ho :: args) o) vars = bif isNm (.mk 1 hs' hc ho) then listR 2 hs' [] (convL args vars) else .inl ho := by
    rw [conv_cons, bE, bT, bU, b0]
    rfl
  rw [hcv]
  have hn0 : ¬ ((args.length : Int) = 0) := by omega
  have bn0 : ((args.length : Int) == 0) = false := by simpa using hn0
  have hnil : RowsA (.pv (.list (rowsN hc))) (rowsN hc) := .list _
  have hbad := fail_tail (R := R) (ts := ts) (B := [I64 3, SS st, a, I64 o]) (Z := [I64 0, SS [], I64 0, .capped []]) (more := [[I64 1, SS hs', .pv (.list (rowsN hc)), I64 ho]]) (L := L) (L' := LFE (env R) 47 0 L.ro L.rt) (rr := L.rr 47) (k := 1) (o := ho) (st := hs') hid hs rfl hro rfl hnil (three_ok ha)
  have hnm : isNm (.mk 1 hs' hc ho) = (((1 : Int) == 1) && isId hs' && !resv.contains hs') := rfl
  refine p47_6 ?_
  simp [-beq_iff_eq, -beq_eq_false_iff_ne, rowsN_len, bn0]
  refine p47_8 ?_
  simp [get_app, get_app0]
  refine wCall_pure (rident_spec hh) ?_
  rintro r rfl
  cases c1 : isId hs' with
  | false =>
    rw [hnm, c1]
    simp only [Bool.and_false, Bool.false_and, cond_false]
    simp [get_app, get_app0]
    simpa using hbad
  | true =>
    simp [get_app, get_app0]
    refine wCall_pure keyword_spec ?_
    rintro r rfl
    cases c2 : resv.contains hs' with
    | true =>
      rw [hnm, c1, c2]
      simp [get_app, get_app0]
      simpa using hbad
    | false =>
      rw [hnm, c1, c2]
      simp [get_app, get_app0]
      refine p47_9 ?_
      simp [get_app, get_app0]
      refine wCall_do (all_spec (L := LFE (env R) 47 0 L.ro L.rt) hl ih hro hrt (low_get hid _) (okS_more hs (three_ok ha))) ?_
      rintro r ⟨bs', ts'⟩ ⟨y, hy, hr⟩
      simp only at hy hr
      subst hy
      obtain ⟨rows, hrr⟩ := hr.rows
      have hok := hrr.ok
      have hce := hrr.cells
      have this := conv_tail (R := R) (y := y) (ts := ts) (C := listR 2 hs' [] (convL args vars)) (r := .agg [I64 2, SS hs', I64 0, r]) (bs' := bs') (B := [I64 3, SS st, a, I64 o]) (Z := [I64 0, SS [], I64 0, .capped []]) (more := [[I64 1, SS hs', .pv (.list (rowsN hc)), I64 ho]]) (L := L) (L' := LFE (env R) 47 0 L.ro L.rt) (rr := L.rr 47) hid hs rfl hro rfl hr.cres
      have h2 : bs'[bs.length + 2]? = some [I64 1, SS hs', .pv (.list (rowsN hc)), I64 ho] := by
        cases hcl : convL args vars with
        | inl e =>
          rw [hcl] at hr
          rw [hr.2, low_set hid, mid_get]
          rfl
        | inr l =>
          rw [hcl] at hr
          rw [hr.1, get_app]
          rfl
      simp [h2, hok, hce, eqA, eqP, eqV_str]
      simpa [hok] using this
end
end Go.Proofs.YtmipbilokjkjiaaGreatDoor
/-
  The reference's converter: 'exists'.
-/
namespace Go.Proofs.YtmipbilokjkjiaaGreatDoor
open Go.Tel
attribute [local simp] wNew wBox wBoxZ markT wCond wBuild fillS wO setCells wSt wLd wPart LFE wFad alive wInt wStr wGK wGd wPick wExt wLen wSlen wNot wNil okI ceI okB ceB okS ceS okL ceL okC ceC okO ceO okP ceP okG ceG okE ceE okR ceR okF ceF okX ceX okM ceM okN ceN okNf ceNf okNi ceNi ceA roL roC roO leL leC leO tpP tpC tpO clP clC clO clF clA clT clN clL nbP nbC nbO nbN nbL toPVs
section
variable {R : Nat → Option (List PV)}
/-- An 'exists' list that has not three arguments. -/
theorem rconv_count {st : List UInt8} {ho o : Int} {hc args : List Nd} {vars : List (List UInt8)} {v : AV} (h3 : args.length ≠ 3) (hl : args.length < 2 ^ 38) : ConvS R (.mk 3 st (.mk 1 [101, 120, 105, 115, 116, 115] hc ho :: args) o) vars v := by
  have hlen := hl
  refine conv_head (by omega) fun a L bs id ts ha hro hrt hid hs => ?_
  have hcv : conv (.mk 3 st (.mk 1 [101, 120, 105, 115, 116, 115] hc ho :: args) o) vars = .inl o := by
    rw [conv_cons]
    show exR o args vars = .inl o
    rcases args with _ | ⟨⟨nk, ns, nc, no⟩, _ | ⟨x3, _ | ⟨x4, _ | ⟨x5, r⟩⟩⟩⟩ <;> first
      | rfl
      | exact absurd rfl h3
  rw [hcv]
  have hlt : id < bs.length := (List.getElem?_eq_some_iff.1 hid).1
  refine p47_3 ?_
  simp [get_app, get_app0]
  refine wIdx_rows ha (row := rowN (.mk 1 [101, 120, 105, 115, 116, 115] hc ho)) (by omega) (by simp [rowsN]) (rowN_len _) (by omega) ?_
  simp [rowN, get_app, get_app0]
  refine slc1 ha ?_
  have this := fail_tail (R := R) (ts := ts) (B := [I64 3, SS st, a, I64 o]) (Z := [I64 0, SS [], I64 0, .capped []]) (more := [[I64 1, SS [101, 120, 105, 115, 116, 115], .pv (.list (rowsN hc)), I64 ho]]) (L := L) (L' := LFE (env R) 47 0 L.ro L.rt) (rr := L.rr 47) (k := 3) (o := o) (st := st) hid hs rfl hro rfl ha (three_ok ha)
  have g1 : L.ro ≤ bs.length + 2 := by omega
  have h3' : ¬ ((args.length : Int) = 3) := by omega
  have b3' : ((args.length : Int) != 3) = true := by simpa using h3'
  simp [get_app, get_app0, set_app, set_app0, rowsN_len, h3', b3', eqA_rowsN ha, eqA, eqAL, eqP, eqV_int, eqV_str, eqPL, eqPLL_rowsN]
  refine ⟨g1, wIdx_rows ha (row := rowN (.mk 1 [101, 120, 105, 115, 116, 115] hc ho)) (by omega) (by simp [rowsN]) (rowN_len _) (by omega) (by simp [rowN, eqA, eqPL, eqP, eqV_int, eqV_str, eqPLL_rowsN]), slc1 ha (by simp [eqA, eqP, eqPLL_rowsN]), slc1 ha (by simp [eqA, eqP, eqPLL_rowsN]), ?_⟩
  simpa using this
end
end Go.Proofs.YtmipbilokjkjiaaGreatDoor
/-
  The reference's converter: 'exists' with three arguments.
-/
namespace Go.Proofs.YtmipbilokjkjiaaGreatDoor
open Go.Tel
attribute [local simp] wNew wBox wBoxZ markT wCond wBuild fillS wO setCells wSt wLd wPart LFE wFad alive wInt wStr wGK wGd wPick wExt wLen wSlen wNot wNil okI ceI okB ceB okS ceS okL ceL okC ceC okO ceO okP ceP okG ceG okE ceE okR ceR okF ceF okX ceX okM ceM okN ceN okNf ceNf okNi ceNi ceA roL roC roO leL leC leO tpP tpC tpO clP clC clO clF clA clT clN clL nbP nbC nbO nbN nbL toPVs
section
variable {R : Nat → Option (List PV)}
theorem rconv_exname {st ns : List UInt8} {ho o nk no : Int} {hc nc : List Nd} {b body : Nd} {vars : List (List UInt8)} {v : AV} (hns : ns.length < 2 ^ 60) (hb : isNm (.mk nk ns nc no) = false) : ConvS R (.mk 3 st (.mk 1 [101, 120, 105, 115, 116, 115] hc ho :: [.mk nk ns nc no, b, body]) o) vars v := by
  refine conv_head (by simp) fun a L bs id ts ha hro hrt hid hs => ?_
  have hcv : conv (.mk 3 st (.mk 1 [101, 120, 105, 115, 116, 115] hc ho :: [.mk nk ns nc no, b, body]) o) vars = .inl no := by
    rw [conv_cons]
    show exR o [.mk nk ns nc no, b, body] vars = .inl no
    simp only [exR, hb, cond_false]
  rw [hcv]
  have hlt : id < bs.length := (List.getElem?_eq_some_iff.1 hid).1
  refine p47_3 ?_
  simp [get_app, get_app0]
  refine wIdx_rows ha (row := rowN (.mk 1 [101, 120, 105, 115, 116, 115] hc ho)) (by omega) (by simp [rowsN]) (rowN_len _) (by omega) ?_
  simp [rowN, get_app, get_app0]
  refine slc1 ha ?_
  have g1 : ∀ n, L.ro ≤ bs.length + n := fun n => by omega
  simp [get_app, get_app0, set_app, set_app0, g1, rowsN_len, eqA_rowsN ha, eqA, eqAL, eqP, eqV_int, eqV_str, eqPL, eqPLL_rowsN]
  refine ⟨wIdx_rows ha (row := rowN (.mk 1 [101, 120, 105, 115, 116, 115] hc ho)) (by omega) (by simp [rowsN]) (rowN_len _) (by omega) (by simp [rowN, eqA, eqPL, eqP, eqV_int, eqV_str, eqPLL_rowsN]), slc1 ha (by simp [eqA, eqP, eqPLL_rowsN]), slc1 ha (by simp [eqA, eqP, eqPLL_rowsN]), ?_⟩
  refine p47_5 ?_
  refine wIdx_rows (.list _) (row := rowN (.mk nk ns nc no)) (by omega) (by simp [rowsN]) (rowN_len _) (by omega) ?_
  have hncl : RowsA (.pv (.list (rowsN nc))) (rowsN nc) := .list _
  have hm4 : ∀ b ∈ [I64 3, SS st, a, I64 o] :: [I64 0, SS [], I64 0, .capped []] :: [[I64 1, SS [101, 120, 105, 115, 116, 115], .pv (.list (rowsN hc)), I64 ho], [I64 nk, SS ns, .pv (.list (rowsN nc)), I64 no]], ∀ n, idsLtL n b = true := by
    intro b hb n
    simp only [List.mem_cons, List.not_mem_nil, or_false] at hb
    rcases hb with rfl | rfl | rfl | rfl <;> simp [idsLtL, idsLt, ha.idsLt]
  have this := fail_tail (R := R) (ts := ts) (B := [I64 3, SS st, a, I64 o]) (Z := [I64 0, SS [], I64 0, .capped []]) (more := [[I64 1, SS [101, 120, 105, 115, 116, 115], .pv (.list (rowsN hc)), I64 ho], [I64 nk, SS ns, .pv (.list (rowsN nc)), I64 no]]) (L := L) (L' := LFE (env R) 47 0 L.ro L.rt) (rr := L.rr 47) (k := nk) (o := no) (st := ns) hid hs rfl hro rfl hncl hm4
  have hnm : isNm (.mk nk ns nc no) = ((nk == 1) && isId ns && !resv.contains ns) := rfl
  by_cases hk : nk = 1
  · subst hk
    simp [rowN, get_app, get_app0, set_app, set_app0, g1]
    refine wCall_pure (rident_spec hns) ?_
    rintro r rfl
    cases c1 : isId ns with
    | false =>
      simp [get_app, get_app0]
      simpa [g1] using this
    | true =>
      simp [get_app, get_app0]
      refine wCall_pure keyword_spec ?_
      rintro r rfl
      cases c2 : resv.contains ns with
      | true =>
        simp [get_app, get_app0]
        simpa [g1] using this
      | false =>
        rw [hnm, c1, c2] at hb
        simp at hb
  · have b1' : (nk != 1) = true := by simpa using hk
    simp [rowN, get_app, get_app0, set_app, set_app0, g1, hk, b1']
    simpa [g1] using this
end
end Go.Proofs.YtmipbilokjkjiaaGreatDoor
/-
  The reference's converter: 'exists' with a good name.
-/
namespace Go.Proofs.YtmipbilokjkjiaaGreatDoor
open Go.Tel
attribute [local simp] wNew wBox wBoxZ markT wCond wBuild fillS wO setCells wSt wLd wPart LFE wFad alive wInt wStr wGK wGd wPick wExt wLen wSlen wNot wNil okI ceI okB ceB okS ceS okL ceL okC ceC okO ceO okP ceP okG ceG okE ceE okR ceR okF ceF okX ceX okM ceM okN ceN okNf ceNf okNi ceNi ceA roL roC roO leL leC leO tpP tpC tpO clP clC clO clF clA clT clN clL nbP nbC nbO nbN nbL toPVs
section
variable {R : Nat → Option (List PV)}
theorem exists_rspec {k1 i1 k2 i2 : Int} {n1 n2 : List UInt8} {a1 a2 : AV} {rows1 rows2 : List (List PV)} (h1 : RowsO a1 rows1) (h2 : RowsO a2 rows2) :
    PureC (env R) 32 [.agg [I64 k1, SS n1, I64 i1, a1], .agg [I64 k2, SS n2, I64 i2, a2]] fun r => r = .agg [I64 6, SS [], I64 0, .capped [[.sc (.int .i64 k1), .sc (.string ⟨n1.toArray⟩), .sc (.int .i64 i1), .list rows1], [.sc (.int .i64 k2), .sc (.string ⟨n2.toArray⟩), .sc (.int .i64 i2), .list rows2]]] := by
  obtain ⟨b1, c1, r1⟩ := h1.closed ([] : List (List AV)) 0
  obtain ⟨b2, c2, r2⟩ := h2.closed ([] : List (List AV)) 0
  refine e32 (u0 := .agg [I64 k1, SS n1, I64 i1, b1]) (u1 := .agg [I64 k2, SS n2, I64 i2, b2]) (by simp [c1, c2]) (p32_0 ?_)
  simp [QP, QI, r1.ok, r2.ok, r1.toPV, r2.toPV, wBsl, repl, rowsBy]
theorem wSt_and2 {L : Lim} {s : Sto} {k : Nat} {a x : AV} {K K' : Sto → Prop} (hC : ∀ s, K s → K' s) (h : wSt L s k a x K) : wSt L s k a x K' := by
  unfold wSt at h ⊢
  split at h
  · obtain ⟨cs, h1, h2, h3⟩ := wO_inv h
    simp only [wO, h1]
    exact ⟨h2, hC _ h3⟩
  · exact h
theorem ld_row {E : Env} {s : Sto} {row : List PV} {K : AV → Prop} (hl : row.length = 4) (h : K (.agg (row.map .pv))) : wLd E s (some 4) (.eptr row 0) K := by
  simp only [wLd, wPart, List.length_map, hl, List.drop_zero]
  refine ⟨by omega, ?_⟩
  rw [List.take_of_length_le (by simp [hl])]
  exact h
theorem eqA_self {a : AV} {us : List Ty} (h : RowsO a (rowsT us)) : eqA a a = true := by
  rcases h with (rfl | rfl) | ⟨t, rfl⟩ <;> simp [eqA, eqP, eqPLL_rows]
theorem eqA_nd (n : Nd) : eqA (AV.agg ((rowN n).map .pv)) (AV.agg ((rowN n).map .pv)) = true := by
  obtain ⟨k1, s1, c1, o1⟩ := n
  simp [rowN, eqA, eqAL, eqP, eqV_int, eqV_str, eqPLL_rowsN]
/-- What follows the conversion of the bound. -/
theorem ex_rest {bs bs1 bs3 : List (List AV)} {id : Nat} {ts : List (Nat × TypeId)} {L : Lim} {k i no : Int} {n ns : List UInt8} {nc : List Nd} {a v : AV} {us : List Ty} {vars : List (List UInt8)} {body b0 b1 : Nd} {QR : AV → Sto → Prop}
    (hro : L.ro ≤ id) (hlt : id < bs.length) (hrt : L.rt ≤ ts.length) (ha : RowsO a (rowsT us)) (hvl : vars.length < 2 ^ 39) (hv : RowsO v (strRows vars)) (hl1 : bs1.length = bs.length + 4) (g3 : bs1[bs.length + 3]? = some [I64 1, SS ns, .pv (.list (rowsN nc)), I64 no])
    (l3 : bs3[bs1.length]? = some [I64 k, SS n, I64 i, a])
    (H : ∀ (L' : Lim) (v' : AV) (ts' : List (Nat × TypeId)), L'.ro ≤ id → L'.rt ≤ ts'.length → RowsO v' (strRows (vars ++ [ns])) →
      ∃ r s', (∃ y k2 n2 i2 a2 us2, s'.ts = ts' ++ y ∧ r = .agg [I64 k2, SS n2, I64 i2, a2] ∧ RowsO a2 (rowsT us2) ∧ s'.bs = bs3 ∧
        ∀ y3, wSt (LFE (env R) 47 0 L.ro L.rt) ⟨bs3, ts ++ y3⟩ 4 (.ptr (bs.length + 1) 0) (.agg [I64 6, SS [], I64 0, .capped (rowsT [.mk k n i us, .mk k2 n2 i2 us2])]) fun s' => wLd (env R) s' (some 4) (.ptr (bs.length + 1) 0) fun r => QR r s') ∧
        CallE (env R) L' 47 [.ptr id 0, .agg ((rowN body).map .pv), v'] ⟨bs1 ++ [[I64 k, SS n, I64 i, a]], ts'⟩ r s') :
    wNew ⟨bs1, ts⟩ [(I64 0), (SS []), (I64 0), (.capped [])] fun a10 s1x1 =>
 wSt (LFE (env R) 47 0 L.ro L.rt) s1x1 4 a10 (.agg [I64 k, SS n, I64 i, a]) fun s1x2 =>
 wLd (env R) s1x2 (some 4) a10 fun a107 =>
 wIdx s1x2 4 (.pv (.list (rowsN [b0, b1, body]))) (I64 2) fun a110 =>
 wLd (env R) s1x2 (some 4) a110 fun a111 =>
 wBsl false s1x2 1 [(SS [])] 0 [] fun a112 s1x3 =>
(1 = 1 ∧ 1 ≠ 0) ∧ wApp false (LFE (env R) 47 0 L.ro L.rt) s1x2 9 1 16 a112 v fun a114 s1x4 =>
 wFad s1x4 (.ptr (bs.length + 3) 0) 1 fun a115 =>
 wLd (env R) s1x4 none a115 fun a116 =>
 wBsl false s1x4 1 [(SS [])] 1 [(0, 1, a116)] fun a117 s1x5 =>
(1 = 1 ∧ 1 ≠ 0) ∧ wApp false (LFE (env R) 47 0 L.ro L.rt) s1x4 9 1 16 a114 a117 fun a118 s1x6 =>
 wCall (env R) (LFE (env R) 47 0 L.ro L.rt) (.func (.func 47) [] []) [.ptr id 0, a111, a118] s1x6 fun a119 s1x7 =>
 wCall (env R) (LFE (env R) 47 0 L.ro L.rt) (.func (.func 32) [] []) [a107, a119] s1x7 fun a120 s1x8 =>
 wSt (LFE (env R) 47 0 L.ro L.rt) s1x8 4 (.ptr (bs.length + 1) 0) a120 fun s1x9 =>
(wLd (env R) s1x4 (some 4) a10 fun v => eqA v a107 = true) ∧
(wLd (env R) s1x6 (some 4) a10 fun vx10 => eqA vx10 a107 = true) ∧
(wLd (env R) s1x7 (some 4) a10 fun vx11 => eqA vx11 a107 = true) ∧
(wIdx s1x4 4 (.pv (.list (rowsN [b0, b1, body]))) (I64 2) fun vx12 => eqA vx12 a110 = true) ∧
(wIdx s1x6 4 (.pv (.list (rowsN [b0, b1, body]))) (I64 2) fun vx13 => eqA vx13 a110 = true) ∧
(wLd (env R) s1x4 (some 4) a110 fun vx14 => eqA vx14 a111 = true) ∧
(wLd (env R) s1x6 (some 4) a110 fun vx15 => eqA vx15 a111 = true) ∧
(wFad s1x2 (.ptr (bs.length + 3) 0) 1 fun vx16 => eqA vx16 a115 = true) ∧
(wLd (env R) s1x2 none a115 fun vx17 => eqA vx17 a116 = true) ∧
 wLd (env R) s1x9 (some 4) (.ptr (bs.length + 1) 0) fun r =>
 QR r s1x9 := by
  have g1 : ∀ n, L.ro ≤ bs.length + n := fun n => by omega
  have hok := ha.ok
  have hnb := ha.noBlk
  have gg : ∀ m : List (List AV), (bs1 ++ m)[bs.length + 3]? = some [I64 1, SS ns, .pv (.list (rowsN nc)), I64 no] := fun m => by
    rw [List.getElem?_append_left (by omega), g3]
  have ga : ∀ (m : List (List AV)), (bs1 ++ m)[bs1.length]? = m[0]? := fun m => get_app0 bs1 m
  have gs : ∀ (m : List (List AV)) w, (bs1 ++ m).set bs1.length w = bs1 ++ m.set 0 w := fun m w => set_app0 bs1 m w
  have hix : ∀ (s : Sto) (K : AV → Prop), K (.eptr (rowN body) 0) → wIdx s 4 (.pv (.list (rowsN [b0, b1, body]))) (I64 2) K := fun s K h => wIdx_rows (.list _) (row := rowN body) (by omega) (by simp [rowsN]) (rowN_len _) (by omega) h
  have hro1 : L.ro ≤ bs1.length := by omega
  have hsl : (strRows vars).length = vars.length := strRows_len vars
  have e5 : strRows vars ++ [[.sc (.string ⟨ns.toArray⟩)]] = strRows (vars ++ [ns]) := by simp [strRows]
  have hself := eqA_self ha
  simp only [wNew]
  have hst : ∀ (K : Sto → Prop), K ⟨bs1 ++ [[I64 k, SS n, I64 i, a]], ts⟩ → wSt (LFE (env R) 47 0 L.ro L.rt) ⟨bs1 ++ [[(I64 0), (SS []), (I64 0), (.capped [])]], ts⟩ 4 (.ptr bs1.length 0) (.agg [I64 k, SS n, I64 i, a]) K := by
    intro K h
    simp [ga, gs, hok, hro1]
    exact h
  have hld : ∀ (t : List (Nat × TypeId)) (K : AV → Prop), K (.agg [I64 k, SS n, I64 i, a]) → wLd (env R) ⟨bs1 ++ [[I64 k, SS n, I64 i, a]], t⟩ (some 4) (.ptr bs1.length 0) K := by
    intro t K h
    simp [ga]
    exact h
  have hnm : ∀ (t : List (Nat × TypeId)) (K : AV → Prop), K (SS ns) → wLd (env R) ⟨bs1 ++ [[I64 k, SS n, I64 i, a]], t⟩ none (.ptr (bs.length + 3) 1) K := by
    intro t K h
    simp [gg]
    exact h
  have hfd : ∀ (t : List (Nat × TypeId)) (K : AV → Prop), K (.ptr (bs.length + 3) 1) → wFad ⟨bs1 ++ [[I64 k, SS n, I64 i, a]], t⟩ (.ptr (bs.length + 3) 0) 1 K := by
    intro t K h
    simp [gg]
    exact h
  refine hst _ (hld _ _ (hix _ _ (ld_row (rowN_len _) ?_)))
  have hb0 : ∀ (s : Sto) (K : AV → Sto → Prop), K (.capped []) s → wBsl false s 1 [SS []] 0 [] K := by
    intro s K h
    simp [wBsl, repl, fillS, wO, toPVs, rowsBy]
    exact h
  refine hb0 _ _ ⟨by simp, ?_⟩
  have hv2 : ∀ K : AV → Sto → Prop, (∀ a' x', Apd ts.length (ts ++ x') 9 a' (strRows vars) → K a' ⟨bs1 ++ [[I64 k, SS n, I64 i, a]], ts ++ x'⟩) → wApp false (LFE (env R) 47 0 L.ro L.rt) ⟨bs1 ++ [[I64 k, SS n, I64 i, a]], ts⟩ 9 1 16 (.capped []) v K := by
    intro K hK
    have := wApp_rows (L := LFE (env R) 47 0 L.ro L.rt) (bs := bs1 ++ [[I64 k, SS n, I64 i, a]]) (ts := ts) (x := []) (e := 9) (k := 1) (bytes := 16) (a := .capped []) (y := v) (rows := []) (m := strRows vars) (K := K)
      (.inl rfl) hrt (by simp) strRows_row (by omega) (srcCells_rows hv strRows_row) strRows_ok (by rw [hsl]; simp; omega) (by rw [hsl]; simp; omega) (fun a x h => hK a x (by simpa using h))
    simpa using this
  refine hv2 _ fun w x1 hw => ?_
  refine hfd _ _ (hnm _ _ ?_)
  have hb1 : ∀ (s : Sto) (K : AV → Sto → Prop), K (.capped [[.sc (.string ⟨ns.toArray⟩)]]) s → wBsl false s 1 [SS []] 1 [(0, 1, SS ns)] K := by
    intro s K h
    simp [wBsl, repl, rowsBy]
    exact h
  refine hb1 _ _ ⟨by simp, ?_⟩
  refine wApp_row (ts := ts) (x := x1) (row := [.sc (.string ⟨ns.toArray⟩)]) hw (by simpa [LFE] using hrt) strRows_row rfl (by omega) (by simp [okCell]) (by rw [hsl]; omega) (by rw [hsl]; omega) ?_
  intro w2 x2 hw2
  rw [e5] at hw2
  refine wCall_do (H (LFE (env R) 47 0 L.ro L.rt) w2 (ts ++ x2) hro (by simp [LFE]; omega) hw2.rowsO) ?_
  rintro r ⟨bs', ts'⟩ ⟨y, k2, n2, i2, a2, us2, hy, rfl, ha2, hbs, hK⟩
  simp only at hy hbs
  subst hy hbs
  refine wCall_pure (exists_rspec ha ha2) ?_
  rintro r rfl
  have hK' := hK (x2 ++ y)
  rw [← List.append_assoc] at hK'
  have hl7 : ∀ (t : List (Nat × TypeId)) (K : AV → Prop), K (.agg [I64 k, SS n, I64 i, a]) → wLd (env R) ⟨bs', t⟩ (some 4) (.ptr bs1.length 0) K := by
    intro t K h
    simp [l3]
    exact h
  have hag : eqA (.agg [I64 k, SS n, I64 i, a]) (.agg [I64 k, SS n, I64 i, a]) = true := by simp [eqA, eqAL, eqP, eqV_int, eqV_str, hself]
  have hpt : eqA (.eptr (rowN body) 0) (.eptr (rowN body) 0) = true := by simp [eqA, eqPL_rowN]
  have hnd := eqA_nd body
  have e6 : rowsT [.mk k n i us, .mk k2 n2 i2 us2] = [[.sc (.int .i64 k), .sc (.string ⟨n.toArray⟩), .sc (.int .i64 i), .list (rowsT us)], [.sc (.int .i64 k2), .sc (.string ⟨n2.toArray⟩), .sc (.int .i64 i2), .list (rowsT us2)]] := by simp [rowsT, rowT]
  rw [e6] at hK'
  refine wSt_and2 ?_ hK'
  intro s' h
  exact ⟨hld _ _ hag, hld _ _ hag, hl7 _ _ hag, hix _ _ hpt, hix _ _ hpt, ld_row (rowN_len _) hnd, ld_row (rowN_len _) hnd, hfd _ _ (by simp [eqA]), hnm _ _ (by simp [eqA, eqP, eqV_str]), h⟩
theorem rconv_exists {st ns : List UInt8} {ho o nk no : Int} {hc nc : List Nd} {b body : Nd} {vars : List (List UInt8)} {v : AV} (hns : ns.length < 2 ^ 60) (hb : isNm (.mk nk ns nc no) = true) (hvl : vars.length < 2 ^ 39) (hv : RowsO v (strRows vars)) (ih1 : ConvS R b [] (.capped [])) (ih2 : ∀ v', RowsO v' (strRows (vars ++ [ns])) → ConvS R body (vars ++ [ns]) v') : ConvS R (.mk 3 st (.mk 1 [101, 120, 105, 115, 116, 115] hc ho :: [.mk nk ns nc no, b, body]) o) vars v := by
  refine conv_head (by simp) fun a L bs id ts ha hro hrt hid hs => ?_
  have hlt : id < bs.length := (List.getElem?_eq_some_iff.1 hid).1
  generalize hG : (fun (r : AV) (s' : Sto) => ∃ y, s'.ts = ts ++ y ∧ CRes bs id (conv (.mk 3 st (.mk 1 [101, 120, 105, 115, 116, 115] hc ho :: [.mk nk ns nc no, b, body]) o) vars) r s'.bs) = G
  refine p47_3 ?_
  simp [get_app, get_app0]
  refine wIdx_rows ha (row := rowN (.mk 1 [101, 120, 105, 115, 116, 115] hc ho)) (by omega) (by simp [rowsN]) (rowN_len _) (by omega) ?_
  simp [rowN, get_app, get_app0]
  refine slc1 ha ?_
  have g1 : ∀ n, L.ro ≤ bs.length + n := fun n => by omega
  simp [get_app, get_app0, set_app, set_app0, g1, rowsN_len, eqA_rowsN ha, eqA, eqAL, eqP, eqV_int, eqV_str, eqPL, eqPLL_rowsN]
  refine ⟨wIdx_rows ha (row := rowN (.mk 1 [101, 120, 105, 115, 116, 115] hc ho)) (by omega) (by simp [rowsN]) (rowN_len _) (by omega) (by simp [rowN, eqA, eqPL, eqP, eqV_int, eqV_str, eqPLL_rowsN]), slc1 ha (by simp [eqA, eqP, eqPLL_rowsN]), slc1 ha (by simp [eqA, eqP, eqPLL_rowsN]), ?_⟩
  refine p47_5 ?_
  refine wIdx_rows (.list _) (row := rowN (.mk nk ns nc no)) (by omega) (by simp [rowsN]) (rowN_len _) (by omega) ?_
  have hncl : RowsA (.pv (.list (rowsN nc))) (rowsN nc) := .list _
  have hm4 : ∀ b ∈ [I64 3, SS st, a, I64 o] :: [I64 0, SS [], I64 0, .capped []] :: [[I64 1, SS [101, 120, 105, 115, 116, 115], .pv (.list (rowsN hc)), I64 ho], [I64 nk, SS ns, .pv (.list (rowsN nc)), I64 no]], ∀ n, idsLtL n b = true := by
    intro b hb n
    simp only [List.mem_cons, List.not_mem_nil, or_false] at hb
    rcases hb with rfl | rfl | rfl | rfl <;> simp [idsLtL, idsLt, ha.idsLt]
  have hnm : isNm (.mk nk ns nc no) = ((nk == 1) && isId ns && !resv.contains ns) := rfl
  have hk : nk = 1 := by
    rw [hnm] at hb
    simp at hb
    exact hb.1.1
  have c1 : isId ns = true := by
    rw [hnm] at hb
    simp at hb
    exact hb.1.2
  have c2 : resv.contains ns = false := by
    cases c : resv.contains ns with
    | false => rfl
    | true => rw [hnm, c] at hb; simp at hb
  subst hk
  simp [rowN, get_app, get_app0, set_app, set_app0, g1]
  refine wCall_pure (rident_spec hns) ?_
  rintro r rfl
  rw [c1]
  simp [get_app, get_app0]
  refine wCall_pure keyword_spec ?_
  rintro r rfl
  rw [c2]
  simp [get_app, get_app0]
  refine p47_7 ?_
  refine wIdx_rows (.list _) (row := rowN b) (by omega) (by simp [rowsN]) (rowN_len _) (by omega) (ld_row (rowN_len _) ?_)
  refine wCall_do (ih1 (LFE (env R) 47 0 L.ro L.rt) _ id ts hro hrt (low_get hid _) (okS_more hs hm4) _ (NRep.of_row b)) ?_
  rintro r ⟨bs', ts'⟩ ⟨y, hy, hr⟩
  simp only at hy hr
  subst hy
  have hcv : ∀ C, (match conv b [] with
      | .inl e => .inl e
      | .inr tb => match conv body (vars ++ [ns]) with
        | .inl e => .inl e
        | .inr tt => .inr (.mk 6 [] 0 [tb, tt])) = C → conv (.mk 3 st (.mk 1 [101, 120, 105, 115, 116, 115] hc ho :: [.mk 1 ns nc no, b, body]) o) vars = C := by
    intro C hC
    rw [conv_cons, ← hC]
    show exR o [.mk 1 ns nc no, b, body] vars = _
    simp only [exR, hb, cond_true]
    rfl
  have hm5 : ∀ (k i : Int) (n : List UInt8) (a1 : AV) (us : List Ty), RowsO a1 (rowsT us) → ∀ bb ∈ [[I64 3, SS st, a, I64 o], [I64 0, SS [], I64 0, AV.capped []], [I64 1, SS [101, 120, 105, 115, 116, 115], AV.pv (PV.list (rowsN hc)), I64 ho], [I64 1, SS ns, AV.pv (PV.list (rowsN nc)), I64 no], [I64 k, SS n, I64 i, a1]], ∀ m, idsLtL m bb = true := by
    intro k i n a1 us ha1 bb hbb m
    simp only [List.mem_cons, List.not_mem_nil, or_false] at hbb
    rcases hbb with rfl | rfl | rfl | rfl | rfl <;> simp [idsLtL, idsLt, ha.idsLt, ha1.idsLt]
  cases hcb : conv b [] with
  | inl e =>
    rw [hcb] at hr
    rw [hcv (.inl e) (by rw [hcb])] at hG
    obtain ⟨⟨k, n, i, a1, us, rfl, ha1⟩, rfl⟩ := hr
    rw [low_set hid]
    have hid2 : (bs.set id [I64 2, I64 e])[id]? = some [I64 2, I64 e] := by simp [hlt]
    have hlen2 : (bs.set id [I64 2, I64 e]).length = bs.length := by simp
    refine ex_rest (bs3 := bs.set id [I64 2, I64 e] ++ [[I64 3, SS st, a, I64 o], [I64 0, SS [], I64 0, AV.capped []], [I64 1, SS [101, 120, 105, 115, 116, 115], AV.pv (PV.list (rowsN hc)), I64 ho], [I64 1, SS ns, AV.pv (PV.list (rowsN nc)), I64 no], [I64 k, SS n, I64 i, a1]]) (us := us) (body := body) (nc := nc) (ns := ns) hro hlt (by simp; omega) ha1 hvl hv (by simp) (by rw [mid_get]; rfl) (by rw [show (bs.set id [I64 2, I64 e] ++ [[I64 3, SS st, a, I64 o], [I64 0, SS [], I64 0, AV.capped []], [I64 1, SS [101, 120, 105, 115, 116, 115], AV.pv (PV.list (rowsN hc)), I64 ho], [I64 1, SS ns, AV.pv (PV.list (rowsN nc)), I64 no]]).length = bs.length + 4 by simp, mid_get]; rfl) ?_
    intro L' v' ts' hro' hrt' hv'
    obtain ⟨r, s', ⟨rfl, rfl⟩, hcall⟩ := conv_faulted (R := R) (v := v') (NRep.of_row body) (L := L') (bs := bs.set id [I64 2, I64 e] ++ [[I64 3, SS st, a, I64 o], [I64 0, SS [], I64 0, AV.capped []], [I64 1, SS [101, 120, 105, 115, 116, 115], AV.pv (PV.list (rowsN hc)), I64 ho], [I64 1, SS ns, AV.pv (PV.list (rowsN nc)), I64 no], [I64 k, SS n, I64 i, a1]]) (id := id) (ts := ts') (e := e) hro' (low_get hid2 _) (okS_more (okS_ids hs (by simp [idsLtL, idsLt])) (hm5 k i n a1 us ha1))
    refine ⟨_, _, ⟨[], 0, [], 0, .capped [], [], (List.append_nil _).symm, rfl, .inl (by simp [rowsT]; exact .capped _), rfl, fun y3 => ?_⟩, by simpa using hcall⟩
    have := conv_tail (R := R) (y := y ++ y3) (ts := ts) (C := .inl e) (r := .agg [I64 6, SS [], I64 0, .capped (rowsT [.mk k n i us, .mk 0 [] 0 []])]) (bs' := (bs ++ [[I64 3, SS st, a, I64 o], [I64 0, SS [], I64 0, AV.capped []], [I64 1, SS [101, 120, 105, 115, 116, 115], AV.pv (PV.list (rowsN hc)), I64 ho], [I64 1, SS ns, AV.pv (PV.list (rowsN nc)), I64 no], [I64 k, SS n, I64 i, a1]]).set id [I64 2, I64 e]) (B := [I64 3, SS st, a, I64 o]) (Z := [I64 0, SS [], I64 0, .capped []]) (more := [[I64 1, SS [101, 120, 105, 115, 116, 115], AV.pv (PV.list (rowsN hc)), I64 ho], [I64 1, SS ns, AV.pv (PV.list (rowsN nc)), I64 no], [I64 k, SS n, I64 i, a1]]) (L := L) (L' := LFE (env R) 47 0 L.ro L.rt) (rr := L.rr 47) hid hs rfl hro rfl ⟨⟨_, _, _, _, _, rfl, .inl (.capped _)⟩, rfl⟩
    rw [low_set hid] at this
    rw [List.append_assoc]
    rw [hG] at this
    exact this
  | inr tb =>
    rw [hcb] at hr
    obtain ⟨kt, nt, it, tt⟩ := tb
    obtain ⟨rfl, a1, rfl, ha1⟩ := hr
    have X : ∀ bs3, bs3[bs.length + 4]? = some [I64 kt, SS nt, I64 it, a1] → _ := fun bs3 h3 => ex_rest (R := R) (bs := bs) (bs1 := bs ++ [[I64 3, SS st, a, I64 o], [I64 0, SS [], I64 0, AV.capped []], [I64 1, SS [101, 120, 105, 115, 116, 115], AV.pv (PV.list (rowsN hc)), I64 ho], [I64 1, SS ns, AV.pv (PV.list (rowsN nc)), I64 no]]) (bs3 := bs3) (id := id) (ts := ts ++ y) (L := L) (k := kt) (i := it) (n := nt) (a := a1) (us := tt) (body := body) (nc := nc) (no := no) (ns := ns) (v := v) (vars := vars) (b0 := .mk 1 ns nc no) (b1 := b)
      (QR := QM (L.rr 47) bs.length G) hro hlt (by simp; omega) ha1 hvl hv (by simp) (by rw [get_app]; rfl) (by simpa using h3)
    cases hcb2 : conv body (vars ++ [ns]) with
    | inl e =>
      rw [hcv (.inl e) (by rw [hcb]; simp only [hcb2])] at hG
      refine X (bs.set id [I64 2, I64 e] ++ [[I64 3, SS st, a, I64 o], [I64 0, SS [], I64 0, AV.capped []], [I64 1, SS [101, 120, 105, 115, 116, 115], AV.pv (PV.list (rowsN hc)), I64 ho], [I64 1, SS ns, AV.pv (PV.list (rowsN nc)), I64 no], [I64 kt, SS nt, I64 it, a1]]) (by rw [mid_get]; rfl) ?_
      intro L' v' ts' hro' hrt' hv'
      obtain ⟨r, ⟨bs2, ts2⟩, ⟨y2, hy2, hr2⟩, hcall⟩ := ih2 v' hv' L' (bs ++ [[I64 3, SS st, a, I64 o], [I64 0, SS [], I64 0, AV.capped []], [I64 1, SS [101, 120, 105, 115, 116, 115], AV.pv (PV.list (rowsN hc)), I64 ho], [I64 1, SS ns, AV.pv (PV.list (rowsN nc)), I64 no], [I64 kt, SS nt, I64 it, a1]]) id ts' hro' hrt' (low_get hid _) (okS_more hs (hm5 kt it nt a1 tt ha1)) _ (NRep.of_row body)
      simp only at hy2 hr2
      subst hy2
      rw [hcb2] at hr2
      obtain ⟨⟨k2, n2, i2, a2, us2, rfl, ha2⟩, rfl⟩ := hr2
      refine ⟨_, _, ⟨y2, k2, n2, i2, a2, us2, rfl, rfl, ha2, low_set hid _ _, fun y3 => ?_⟩, by simpa using hcall⟩
      have := conv_tail (R := R) (y := y ++ y3) (ts := ts) (C := .inl e) (r := .agg [I64 6, SS [], I64 0, .capped (rowsT [.mk kt nt it tt, .mk k2 n2 i2 us2])]) (bs' := (bs ++ [[I64 3, SS st, a, I64 o], [I64 0, SS [], I64 0, AV.capped []], [I64 1, SS [101, 120, 105, 115, 116, 115], AV.pv (PV.list (rowsN hc)), I64 ho], [I64 1, SS ns, AV.pv (PV.list (rowsN nc)), I64 no], [I64 kt, SS nt, I64 it, a1]]).set id [I64 2, I64 e]) (B := [I64 3, SS st, a, I64 o]) (Z := [I64 0, SS [], I64 0, .capped []]) (more := [[I64 1, SS [101, 120, 105, 115, 116, 115], AV.pv (PV.list (rowsN hc)), I64 ho], [I64 1, SS ns, AV.pv (PV.list (rowsN nc)), I64 no], [I64 kt, SS nt, I64 it, a1]]) (L := L) (L' := LFE (env R) 47 0 L.ro L.rt) (rr := L.rr 47) hid hs rfl hro rfl ⟨⟨_, _, _, _, _, rfl, .inl (.capped _)⟩, rfl⟩
      rw [low_set hid] at this
      rw [List.append_assoc]
      rw [hG] at this
      exact this
    | inr tb2 =>
      rw [hcv (.inr (.mk 6 [] 0 [.mk kt nt it tt, tb2])) (by rw [hcb]; simp only [hcb2])] at hG
      refine X (bs ++ [[I64 3, SS st, a, I64 o], [I64 0, SS [], I64 0, AV.capped []], [I64 1, SS [101, 120, 105, 115, 116, 115], AV.pv (PV.list (rowsN hc)), I64 ho], [I64 1, SS ns, AV.pv (PV.list (rowsN nc)), I64 no], [I64 kt, SS nt, I64 it, a1]]) (by rw [get_app]; rfl) ?_
      intro L' v' ts' hro' hrt' hv'
      obtain ⟨r, ⟨bs2, ts2⟩, ⟨y2, hy2, hr2⟩, hcall⟩ := ih2 v' hv' L' (bs ++ [[I64 3, SS st, a, I64 o], [I64 0, SS [], I64 0, AV.capped []], [I64 1, SS [101, 120, 105, 115, 116, 115], AV.pv (PV.list (rowsN hc)), I64 ho], [I64 1, SS ns, AV.pv (PV.list (rowsN nc)), I64 no], [I64 kt, SS nt, I64 it, a1]]) id ts' hro' hrt' (low_get hid _) (okS_more hs (hm5 kt it nt a1 tt ha1)) _ (NRep.of_row body)
      simp only at hy2 hr2
      subst hy2
      rw [hcb2] at hr2
      obtain ⟨k2, n2, i2, us2⟩ := tb2
      obtain ⟨rfl, a2, rfl, ha2⟩ := hr2
      refine ⟨_, _, ⟨y2, k2, n2, i2, a2, us2, rfl, rfl, ha2, rfl, fun y3 => ?_⟩, by simpa using hcall⟩
      have := conv_tail (R := R) (y := y ++ y3) (ts := ts) (C := .inr (.mk 6 [] 0 [.mk kt nt it tt, .mk k2 n2 i2 us2])) (r := .agg [I64 6, SS [], I64 0, .capped (rowsT [.mk kt nt it tt, .mk k2 n2 i2 us2])]) (bs' := bs ++ [[I64 3, SS st, a, I64 o], [I64 0, SS [], I64 0, AV.capped []], [I64 1, SS [101, 120, 105, 115, 116, 115], AV.pv (PV.list (rowsN hc)), I64 ho], [I64 1, SS ns, AV.pv (PV.list (rowsN nc)), I64 no], [I64 kt, SS nt, I64 it, a1]]) (B := [I64 3, SS st, a, I64 o]) (Z := [I64 0, SS [], I64 0, .capped []]) (more := [[I64 1, SS [101, 120, 105, 115, 116, 115], AV.pv (PV.list (rowsN hc)), I64 ho], [I64 1, SS ns, AV.pv (PV.list (rowsN nc)), I64 no], [I64 kt, SS nt, I64 it, a1]]) (L := L) (L' := LFE (env R) 47 0 L.ro L.rt) (rr := L.rr 47) hid hs rfl hro rfl ⟨rfl, _, rfl, .inl (.capped _)⟩
      rw [List.append_assoc]
      rw [hG] at this
      exact this
end
end Go.Proofs.YtmipbilokjkjiaaGreatDoor
/-
  The reference's converter: every node.
-/
namespace Go.Proofs.YtmipbilokjkjiaaGreatDoor
open Go.Tel
section
variable {R : Nat → Option (List PV)}
mutual
theorem rconv_spec : ∀ (n : Nd), fewN n → okNd n → ∀ (vars : List (List UInt8)) (v : AV), RowsO v (strRows vars) → vars.length + grow n < 2 ^ 38 → ConvS R n vars v
  | .mk k st cs o, hf, ho, vars, v, hv, hl => by
    simp only [grow] at hl
    simp only [fewN] at hf
    simp only [okNd] at ho
    have ih := rconvs_spec cs hf.2 ho.2
    by_cases h1 : k = 1
    · subst h1
      exact rconv_word hv (by omega) ho.1
    by_cases h3 : k = 3
    · subst h3
      cases cs with
      | nil => exact rconv_nil
      | cons hd args =>
        obtain ⟨hk, hs, hc, hoo⟩ := hd
        simp only [okNds, okNd] at ho
        simp only [List.length_cons] at hf
        have hlen := hf.1
        have ihA : ∀ c ∈ args, ConvS R c vars v := fun c hcm => ih c (List.mem_cons_of_mem _ hcm) vars v hv (by have := grow_mem (List.mem_cons_of_mem (.mk hk hs hc hoo) hcm); omega)
        by_cases e1 : hk = 1
        · subst e1
          by_cases hE : hs = [101, 120, 105, 115, 116, 115]
          · subst hE
            by_cases h3 : args.length = 3
            · obtain ⟨nm, b, body, rfl⟩ : ∃ nm b body, args = [nm, b, body] := by
                rcases args with _ | ⟨x1, _ | ⟨x2, _ | ⟨x3, _ | ⟨x4, r⟩⟩⟩⟩ <;> simp at h3
                exact ⟨_, _, _, rfl⟩
              obtain ⟨nk, ns, nc, no⟩ := nm
              simp only [okNds, okNd] at ho
              have hg4 := grow_four (a := .mk 1 [101, 120, 105, 115, 116, 115] hc hoo) (b := .mk nk ns nc no) (c := b) (d := body)
              have hg3 : grow b ≤ growL [.mk 1 [101, 120, 105, 115, 116, 115] hc hoo, .mk nk ns nc no, b, body] := grow_mem (by simp)
              cases hb : isNm (.mk nk ns nc no) with
              | false => exact rconv_exname ho.2.2.1.1 hb
              | true =>
                refine rconv_exists ho.2.2.1.1 hb (by omega) hv (ih b (by simp) [] (.capped []) (.inl (.capped _)) (by simp only [List.length_nil]; omega)) fun v' hv' => ih body (by simp) _ v' hv' (by simp only [List.length_append, List.length_cons, List.length_nil]; omega)
            · exact rconv_count h3 (by omega)
          · by_cases hT : hs = [116, 117, 112, 108, 101]
            · subst hT
              exact rconv_tuple (by omega) ihA
            · by_cases hU : hs = [117, 110, 105, 111, 110]
              · subst hU
                by_cases h2 : 2 ≤ args.length
                · exact rconv_union h2 (by omega) ihA
                · exact rconv_short h2 (by omega)
              · cases args with
                | nil => exact rconv_noargs hE hT hU
                | cons x r => exact rconv_named hE hT hU (by simp) ho.2.1.1 (by omega) ihA
        · exact rconv_hk e1 (by omega)
    · exact rconv_other h1 h3
theorem rconvs_spec : ∀ (l : List Nd), fewNs l → okNds l → ∀ c ∈ l, ∀ (vars : List (List UInt8)) (v : AV), RowsO v (strRows vars) → vars.length + grow c < 2 ^ 38 → ConvS R c vars v
  | [], _, _, _, h => by cases h
  | e :: l, hf, hk, a, h => by
    simp only [okNds] at hk
    simp only [fewNs] at hf
    rcases List.mem_cons.1 h with h' | h'
    · rw [h']
      exact rconv_spec e hf.1 hk.1
    · exact rconvs_spec l hf.2 hk.2 a h'
end
end
end Go.Proofs.YtmipbilokjkjiaaGreatDoor
/-
  FromNode, the reference.
-/
namespace Go.Proofs.YtmipbilokjkjiaaGreatDoor
open Go.Tel
attribute [local simp] wNew wBox wBoxZ markT wCond wBuild fillS wO setCells wSt wLd wPart LFE wFad alive wInt wStr wGK wGd wPick wExt wLen wSlen wNot wNil okI ceI okB ceB okS ceS okL ceL okC ceC okO ceO okP ceP okG ceG okE ceE okR ceR okF ceF okX ceX okM ceM okN ceN okNf ceNf okNi ceNi ceA roL roC roO leL leC leO tpP tpC tpO clP clC clO clF clA clT clN clL nbP nbC nbO nbN nbL toPVs
section
variable {R : Nat → Option (List PV)}
theorem rfromNode_spec {n : Nd} (h : nsize n < 2 ^ 60) (hf : fewN n) (ho : okNd n) {vars : List (List UInt8)} {v x : AV} (hv : RowsA v (strRows vars)) (hvl : vars.length + grow n < 2 ^ 38) (hx : NRep n x) :
    PureC (env R) 24 [x, v] fun r => ∃ y, r = .tuple [y, FA (fromR n vars).2.1 (fromR n vars).2.2] ∧ TRep (fromR n vars).1 y := by
  have e1 := rconv_spec (R := R) n hf ho vars v (.inl hv) hvl
  have hok := conv_ok n ho vars
  suffices H : ∀ Post : AV → Prop, (∀ y, TRep (fromR n vars).1 y → Post (.tuple [y, FA (fromR n vars).2.1 (fromR n vars).2.2])) → P24_0 R 0 0 0 x v ⟨[], []⟩ (QP Post) from by
    have hcl : closeL [] 0 0 [x, v] = some [x, v] := by
      obtain ⟨k, s, cs, o⟩ := n
      obtain ⟨a, rfl, ha⟩ := hx
      simp [ha.close, hv.close]
    exact e24 hcl (H _ fun y hy => ⟨y, rfl, hy⟩)
  intro Post hP
  unfold fromR at hP
  have hx' := hx
  obtain ⟨k, s, cs, o⟩ := n
  obtain ⟨a, rfl, ha⟩ := hx
  refine p24_0 ?_
  simp [ha.ok]
  have hs : OkS ⟨[[I64 k, SS s, a, I64 o], [I64 0, SS [], I64 0, .capped []], [I64 0, I64 0], [I64 0, I64 0]], []⟩ := by
    intro b hb
    simp only [List.mem_cons, List.not_mem_nil, or_false] at hb
    rcases hb with rfl | rfl | rfl | rfl <;> simp [idsLtL, idsLt, ha.idsLt]
  refine wCall_do (e1 _ _ 3 [] (by simp) (by simp) (by simp) hs _ ⟨a, rfl, ha⟩) ?_
  rintro r ⟨bs', ts'⟩ ⟨y, hy, hr⟩
  simp only at hy hr
  subst hy
  cases hex : conv (.mk k s cs o) vars with
  | inl e =>
    rw [hex] at hr
    simp only [hex] at hP
    obtain ⟨⟨k1, n1, i1, a1, us, rfl, ha1⟩, rfl⟩ := hr
    simp [QP, QI, ha1.ok, eqA, eqAL, eqP, eqV_int]
    exact hP _ ⟨.capped [], rfl, .capped _⟩
  | inr t =>
    have hk := hok t hex
    rw [hex] at hr
    simp only [hex] at hP
    obtain ⟨kt, nt, it, tt⟩ := t
    obtain ⟨rfl, a1, rfl, ha1⟩ := hr
    obtain ⟨a2, hc2, ha2⟩ := ha1.closed ([] : List (List AV)) 0
    have ev : PureC (env R) 14 [.agg [I64 kt, SS nt, I64 it, a1]] fun r => r = I64 (verdict (.mk kt nt it tt)) := by
      refine PureC.of_closed (args' := [.agg [I64 kt, SS nt, I64 it, a2]]) (by kernel_rfl) (by kernel_rfl) ?_ ?_ (rvalidate_spec (R := R) (t := .mk kt nt it tt) (by omega) hk.2 ⟨a2, rfl, ha2⟩)
      · simp [hc2]
      · simp [ha2.close]
    simp [ha1.ok]
    refine p24_1 ?_
    simp
    refine wCall_pure ev ?_
    rintro r rfl
    generalize verdict (.mk kt nt it tt) = d at *
    by_cases h0 : d = 0
    · subst h0
      simp
      refine p24_2 ?_
      obtain ⟨a3, hc3, ha3⟩ := ha1.closed ([[I64 k, SS s, a, I64 o], [I64 kt, SS nt, I64 it, a1], [I64 0, I64 0], [I64 0, I64 0], [I64 kt, SS nt, I64 it, a1]] : List (List AV)) 0
      simp [QP, QI, ha1.ok, hc3]
      exact hP _ ⟨a3, rfl, ha3⟩
    · have b0 : (d == 0) = false := by simpa using h0
      rw [b0] at hP
      simp [QP, QI, h0, eqA, eqAL, eqP, eqV_int]
      exact hP _ ⟨.capped [], rfl, .capped _⟩
end
end Go.Proofs.YtmipbilokjkjiaaGreatDoor
