/-
  The conversion of a list of nodes, the program.
-/
import Derived.Test.YtmipbilokjkjiaaGreatDoorTA
import Derived.Test.YtmipbilokjkjiaaGreatDoorW1
set_option linter.unusedSimpArgs false
set_option linter.unusedVariables false
namespace Go.Proofs.YtmipbilokjkjiaaGreatDoor
open Go.Tel
attribute [local simp] wNew wBox wBoxZ markT wCond wBuild fillS wO setCells wSt wLd wPart LFE wFad alive wInt wStr wGK wGd wPick wExt wLen wSlen wNot wNil okI ceI okB ceB okS ceS okL ceL okC ceC okO ceO okP ceP okG ceG okE ceE okR ceR okF ceF okX ceX okM ceM okN ceN okNf ceNf okNi ceNi ceA roL roC roO leL leC leO tpP tpC tpO clP clC clO clF clA clT clN clL nbP nbC nbO nbN nbL toPVs g0 g1 xI xL xM xF xG xC lf Y4 Y5
mutual
theorem eqPL_rowN : ∀ t : Nd, eqPL (rowN t) (rowN t) = true
  | .mk k n ts i => by simp [rowN, eqPL, eqP, eqV_int, eqV_str, eqPLL_rowsN ts]
theorem eqPLL_rowsN : ∀ l : List Nd, eqPLL (rowsN l) (rowsN l) = true
  | [] => by simp [rowsN, eqPLL]
  | t :: l => by simp [rowsN, eqPLL, eqPL_rowN t, eqPLL_rowsN l]
end
theorem eqA_rowsN {a : AV} {ts : List Nd} (h : RowsA a (rowsN ts)) : eqA a a = true := by
  rcases h with rfl | rfl <;> simp [eqA, eqP, eqPLL_rowsN]
theorem slc1 {a : AV} {h : Nd} {args : List Nd} {s : Sto} {K : AV → Prop} (ha : RowsA a (rowsN (h :: args))) (hK : K (.pv (.list (rowsN args)))) : wSlc s 4 a (some (I64 1)) none none K := by
  have hall : ((rowsN (h :: args)).all fun r => r.length == 4) = true := by
    rw [aLs0015]
    intro r hr
    rw [rowsN_eq] at hr
    obtain ⟨z, _, rfl⟩ := aLs0052.1 hr
    simp [rowN_len]
  have hl : (rowsN (h :: args)).length = args.length + 1 := by simp [rowsN_len]
  have e : ((rowsN (h :: args)).take (args.length + 1)).drop 1 = rowsN args := by
    rw [aLs0019 (by omega)]
    simp [rowsN]
  rcases ha with rfl | rfl
  · refine ⟨1, args.length + 1, by simp [optNat, natOfA], by simp [optNat, hl], ⟨by omega, by omega, hall⟩, ?_⟩
    rw [e]
    exact hK
  · refine ⟨1, args.length + 1, by simp [optNat, natOfA], by simp [optNat, hl], ⟨by omega, by omega, hall⟩, ?_⟩
    rw [e]
    exact hK
def exR (o : Int) (args : List Nd) (vars : List (List UInt8)) : Int ⊕ Ty := match args with
  | [.mk nk ns nc no, b, body] =>
    bif isNm (.mk nk ns nc no) then
      match conv b [] with
      | .inl e => .inl e
      | .inr tb => match conv body (vars ++ [ns]) with
        | .inl e => .inl e
        | .inr tt => .inr (.mk 6 [] 0 [tb, tt])
    else .inl no
  | _ => .inl o
theorem conv_cons {s hs : List UInt8} {hc args : List Nd} {ho o : Int} {vars : List (List UInt8)} : conv (.mk 3 s (.mk 1 hs hc ho :: args) o) vars =
    bif hs == [101, 120, 105, 115, 116, 115] then exR o args vars
    else bif hs == [116, 117, 112, 108, 101] then listR 3 [] [] (convL args vars)
    else bif hs == [117, 110, 105, 111, 110] then bif decide (2 ≤ args.length) then listR 4 [] [] (convL args vars) else .inl o
    else bif args.length == 0 then .inl o
    else bif isNm (.mk 1 hs hc ho) then listR 2 hs [] (convL args vars) else .inl ho := by
  have hm : ∀ (k : Int) (nm : List UInt8) (x : Int ⊕ List Ty), (match x with | .inl e => (.inl e : Int ⊕ Ty) | .inr l => .inr (.mk k nm 0 l)) = listR k nm [] x := by
    intro k nm x
    cases x <;> rfl
  rw [← hm, ← hm, ← hm]
  rcases args with _ | ⟨⟨nk, ns, nc, no⟩, _ | ⟨b, _ | ⟨body, _ | ⟨z, r⟩⟩⟩⟩ <;> rw [conv] <;> first
    | rfl
    | (intro nk ns nc no b body h
       simp at h)
theorem conv_cons0 {s hs : List UInt8} {hc args : List Nd} {hk ho o : Int} {vars : List (List UInt8)} (h0 : (hk == 1) = false) : conv (.mk 3 s (.mk hk hs hc ho :: args) o) vars = .inl o := by
  rcases args with _ | ⟨⟨nk, ns, nc, no⟩, _ | ⟨b, _ | ⟨body, _ | ⟨z, r⟩⟩⟩⟩ <;> rw [conv] <;> first
    | (rw [h0]; rfl)
    | (intro nk ns nc no b body h
       simp at h)
    | (simp only [h0]; rfl)
section
variable {R : Nat → Option (List PV)}
theorem list_spec {s : List UInt8} {o : Int} {cs : List Nd} {a v : AV} {vars : List (List UInt8)} (ha : RowsA a (rowsN cs)) (hv : RowsA v (strRows vars)) (hs : cs.length < 2 ^ 38) (hok : okNds cs)
    (hx : PureC (env R) 99 [.agg [I64 3, SS s, a, I64 o], v] fun r => CRep (exR o (cs.drop 1) vars) r)
    (ih : ∀ c ∈ cs, PureC (env R) 46 [.agg ((rowN c).map .pv), v] fun r => CRep (conv c vars) r) :
    PureC (env R) 73 [.agg [I64 3, SS s, a, I64 o], v] fun r => CRep (conv (.mk 3 s cs o) vars) r := by
  suffices H : ∀ Post : AV → Prop, (∀ r, CRep (conv (.mk 3 s cs o) vars) r → Post r) → P73_0 R 0 0 0 (.agg [I64 3, SS s, a, I64 o]) v ⟨[], []⟩ (QP Post) from
    e73 (u0 := .agg [I64 3, SS s, a, I64 o]) (u1 := v) (by simp [ha.close, hv.close]) (H _ fun r h => h)
  intro Post hP
  refine p73_0 ?_
  cases cs with
  | nil =>
    simp [ha.ok, ha.lenA, rowsN]
    refine wCall_pure (invalid_spec ha) ?_
    rintro r rfl
    simp [QP, QI]
    exact hP _ ⟨_, rfl, .capped [], rfl, .capped _⟩
  | cons h args =>
    obtain ⟨hk, hs', hc, ho⟩ := h
    simp only [okNds, okNd] at hok
    simp only [aLs0010] at hs
    have hn0 : ¬ ((args.length : Int) + 1 = 0) := by omega
    have bn0 : ((args.length : Int) + 1 == 0) = false := by simpa using hn0
    simp [ha.ok, ha.lenA, rowsN_len, hn0]
    refine wIdx_rows ha (row := rowN (.mk hk hs' hc ho)) (by omega) (by simp [rowsN]) (rowN_len _) (by omega) ?_
    by_cases h1 : hk = 1
    · subst h1
      simp [rowN, bn0]
      refine p73_1 ?_
      simp
      refine wIdx_rows ha (row := rowN (.mk 1 hs' hc ho)) (by omega) (by simp [rowsN]) (rowN_len _) (by omega) ?_
      simp [rowN]
      refine slc1 ha ?_
      simp [eqA_rowsN ha, eqA, eqAL, eqP, eqV_int, eqV_str, eqPL, eqPLL_rowsN]
      refine ⟨wIdx_rows ha (row := rowN (.mk 1 hs' hc ho)) (by omega) (by simp [rowsN]) (rowN_len _) (by omega) (by simp [rowN, eqA, eqPL, eqP, eqV_int, eqV_str, eqPLL_rowsN]), slc1 ha (by simp [eqA, eqP, eqPLL_rowsN]), slc1 ha (by simp [eqA, eqP, eqPLL_rowsN]), ?_⟩
      have hnil : RowsA (.pv (.list (rowsN hc))) (rowsN hc) := .list _
      have inval : ∀ (B : List (List AV)) (x : List (Nat × TypeId)), CRep (.inl o) (.tuple [.agg [I64 0, SS [], I64 0, .capped []], FA 2 o]) := fun _ _ => ⟨_, rfl, .capped [], rfl, .capped _⟩
      by_cases hE : hs' = [101, 120, 105, 115, 116, 115]
      · refine ⟨fun _ => ?_, fun h => absurd hE h⟩
        have hcv : conv (.mk 3 s (.mk 1 hs' hc ho :: args) o) vars = exR o args vars := by
          rw [conv_cons, hE]
          rfl
        rw [hcv] at hP
        refine wCall_pure hx ?_
        intro r hr
        simp only [List.drop_succ_cons, aLs0040] at hr
        cases hex : exR o args vars with
        | inl e =>
          rw [hex] at hr hP
          obtain ⟨y, rfl, a0, rfl, ha0⟩ := hr
          simp [QP, QI, ha0.ok, ha0.close]
          exact hP _ ⟨_, rfl, a0, rfl, ha0⟩
        | inr t =>
          rw [hex] at hr hP
          obtain ⟨kt, nt, it, tt⟩ := t
          obtain ⟨y, rfl, a0, rfl, ha0⟩ := hr
          simp [QP, QI, ha0.ok, ha0.close]
          exact hP _ ⟨_, rfl, a0, rfl, ha0⟩
      refine ⟨fun h => absurd h hE, fun _ => ?_⟩
      have bE : (hs' == [101, 120, 105, 115, 116, 115]) = false := by simpa using hE
      have ih' : ∀ c ∈ args, PureC (env R) 46 [.agg ((rowN c).map .pv), v] fun r => CRep (conv c vars) r := fun c hc => ih c (aLs0046 _ hc)
      have hl38 : args.length < 2 ^ 38 := by omega
      by_cases hT : hs' = [116, 117, 112, 108, 101]
      · refine ⟨fun _ => p73_2 ?_, fun h => absurd hT h⟩
        have hcv : conv (.mk 3 s (.mk 1 hs' hc ho :: args) o) vars = listR 3 [] [] (convL args vars) := by
          rw [conv_cons, bE, hT]
          rfl
        rw [hcv] at hP
        simp [rowsN_len]
        exact list_loop hv hl38 ih' args.length 0 [] (.capped []) [] [] (by omega) rfl (.inl rfl) (by simpa using hP)
      have bT : (hs' == [116, 117, 112, 108, 101]) = false := by simpa using hT
      refine ⟨fun h => absurd h hT, ?_⟩
      by_cases hU : hs' = [117, 110, 105, 111, 110]
      · by_cases h2 : 2 ≤ args.length
        · have h2' : (2 ≤ (args.length : Int)) := by omega
          have hcv : conv (.mk 3 s (.mk 1 hs' hc ho :: args) o) vars = listR 4 [] [] (convL args vars) := by
            rw [conv_cons, bE, bT, hU, aLs0033 h2]
            rfl
          rw [hcv] at hP
          simp [hU, rowsN_len, h2']
          refine p73_2 ?_
          simp [rowsN_len]
          have := list_loop (kd := 4) (nm := []) (B0 := [I64 3, SS s, a, I64 o]) (B3 := [I64 1, SS hs', .pv (.list (rowsN hc)), I64 ho]) (Post := Post) hv hl38 ih' args.length 0 [] (.capped []) [] [] (by omega) rfl (.inl rfl) (by simpa using hP)
          rw [hU] at this
          exact this
        · have h2' : ¬ (2 ≤ (args.length : Int)) := by omega
          have hcv : conv (.mk 3 s (.mk 1 hs' hc ho :: args) o) vars = .inl o := by
            rw [conv_cons, bE, bT, hU, aLs0035 h2]
            rfl
          rw [hcv] at hP
          simp [hU, rowsN_len, h2']
          refine wCall_pure (invalid_spec ha) ?_
          rintro r rfl
          simp [QP, QI]
          exact hP _ ⟨_, rfl, .capped [], rfl, .capped _⟩
      have bU : (hs' == [117, 110, 105, 111, 110]) = false := by simpa using hU
      cases args with
      | nil =>
        have hcv : conv (.mk 3 s [.mk 1 hs' hc ho] o) vars = .inl o := by
          rw [conv_cons, bE, bT, bU]
          rfl
        rw [hcv] at hP
        simp [hU, bU, rowsN_len, rowsN]
        intro _
        refine wCall_pure (invalid_spec ha) ?_
        rintro r rfl
        simp [QP, QI]
        exact hP _ ⟨_, rfl, .capped [], rfl, .capped _⟩
      | cons a1 l1 =>
        have hn1 : ¬ ((l1.length : Int) + 1 = 0) := by omega
        have bn1 : ((l1.length : Int) + 1 == 0) = false := by simpa using hn1
        have hcv : conv (.mk 3 s (.mk 1 hs' hc ho :: a1 :: l1) o) vars = bif isNm (.mk 1 hs' hc ho) then listR 2 hs' [] (convL (a1 :: l1) vars) else .inl ho := by
          rw [conv_cons, bE, bT, bU]
          rfl
        rw [hcv] at hP
        simp [hU, bU, rowsN_len, bn1, hn1]
        intro _
        refine wCall_pure (isName_spec hnil hok.1.1) ?_
        rintro r rfl
        have hnm : isNm (.mk 1 hs' hc ho) = (((1 : Int) == 1) && isId hs' && !resv.contains hs') := rfl
        rw [← hnm]
        cases hb : isNm (.mk 1 hs' hc ho) with
        | false =>
          rw [hb] at hP
          simp
          refine wCall_pure (invalid_spec hnil) ?_
          rintro r rfl
          simp [QP, QI]
          exact hP _ ⟨_, rfl, .capped [], rfl, .capped _⟩
        | true =>
          rw [hb] at hP
          simp [eqA, eqP, eqV_str]
          refine p73_2 ?_
          simp [rowsN_len]
          have := list_loop (kd := 2) (nm := hs') (B0 := [I64 3, SS s, a, I64 o]) (B3 := [I64 1, SS hs', .pv (.list (rowsN hc)), I64 ho]) (Post := Post) hv hl38 ih' (a1 :: l1).length 0 [] (.capped []) [] [] (by omega) rfl (.inl rfl) (by simpa using hP)
          simpa using this
    · have b1' : (hk != 1) = true := by simpa using h1
      simp [rowN, bn0, b1']
      refine wCall_pure (invalid_spec ha) ?_
      rintro r rfl
      simp [QP, QI]
      have b1 : (hk == 1) = false := by simpa using h1
      rw [conv_cons0 b1] at hP
      exact hP _ ⟨_, rfl, .capped [], rfl, .capped _⟩
end
section
variable {R : Nat → Option (List PV)}
theorem exists_spec {s : List UInt8} {o : Int} {cs : List Nd} {a v : AV} {vars : List (List UInt8)} (ha : RowsA a (rowsN cs)) (hv : RowsA v (strRows vars)) (hvl : vars.length < 2 ^ 39) (hok : okNds cs)
    (ih : ∀ c ∈ cs, ∀ (vars' : List (List UInt8)) (v' : AV), RowsA v' (strRows vars') → (vars' = [] ∨ (∃ x y z, cs = [x, y, z, c]) ∧ vars'.length = vars.length + 1) → PureC (env R) 46 [.agg ((rowN c).map .pv), v'] fun r => CRep (conv c vars') r) :
    PureC (env R) 99 [.agg [I64 3, SS s, a, I64 o], v] fun r => CRep (exR o (cs.drop 1) vars) r := by
  suffices H : ∀ Post : AV → Prop, (∀ r, CRep (exR o (cs.drop 1) vars) r → Post r) → P99_0 R 0 0 0 (.agg [I64 3, SS s, a, I64 o]) v ⟨[], []⟩ (QP Post) from
    e99 (u0 := .agg [I64 3, SS s, a, I64 o]) (u1 := v) (by simp [ha.close, hv.close]) (H _ fun r h => h)
  intro Post hP
  refine p99_0 ?_
  by_cases hl : cs.length = 4
  · obtain ⟨h, nm, b, body, rfl⟩ : ∃ h nm b body, cs = [h, nm, b, body] := by
      rcases cs with _ | ⟨x1, _ | ⟨x2, _ | ⟨x3, _ | ⟨x4, _ | ⟨x5, r⟩⟩⟩⟩⟩ <;> simp at hl
      exact ⟨_, _, _, _, rfl⟩
    obtain ⟨nk, ns, nc, no⟩ := nm
    simp only [okNds, okNd] at hok
    simp [ha.ok, ha.lenA, rowsN_len]
    refine p99_1 ?_
    simp
    refine wIdx_rows ha (row := rowN (.mk nk ns nc no)) (by omega) (by simp [rowsN]) (rowN_len _) (by omega) ?_
    simp [rowN]
    have hncl : RowsA (.pv (.list (rowsN nc))) (rowsN nc) := .list _
    refine wCall_pure (isName_spec hncl hok.2.1.1) ?_
    rintro r rfl
    have hnm : isNm (.mk nk ns nc no) = ((nk == 1) && isId ns && !resv.contains ns) := rfl
    rw [← hnm]
    simp only [List.drop_succ_cons, aLs0040, exR] at hP
    cases hb : isNm (.mk nk ns nc no) with
    | false =>
      rw [hb] at hP
      simp
      refine wCall_pure (invalid_spec hncl) ?_
      rintro r rfl
      simp [QP, QI]
      exact hP _ ⟨_, rfl, .capped [], rfl, .capped _⟩
    | true =>
      rw [hb] at hP
      simp only [aLs0004] at hP
      simp
      refine p99_2 ?_
      simp
      refine wIdx_rows ha (row := rowN b) (by omega) (by simp [rowsN]) (rowN_len _) (by omega) ?_
      have e3 := ih b (by simp) [] (.capped []) (.capped _) (.inl rfl)
      have etk : ∀ n : Nd, List.take 4 ((rowN n).map AV.pv) = (rowN n).map .pv := fun n => aLs0019 (by simp [rowN_len])
      simp [rowN_len]
      rw [etk]
      refine wCall_pure e3 ?_
      intro r hr
      cases hcb : conv b [] with
      | inl e =>
        rw [hcb] at hr hP
        obtain ⟨y, rfl, a0, rfl, ha0⟩ := hr
        simp [QP, QI, ha0.ok, eqA, eqAL, eqP, eqV_int]
        exact hP _ ⟨_, rfl, .capped [], rfl, .capped _⟩
      | inr tb =>
        rw [hcb] at hr hP
        obtain ⟨kt, nt, it, tt⟩ := tb
        obtain ⟨y, rfl, a1, rfl, ha1⟩ := hr
        simp [ha1.ok]
        refine p99_3 ?_
        simp
        refine wIdx_rows ha (row := rowN body) (by omega) (by simp [rowsN]) (rowN_len _) (by omega) ?_
        simp [rowN_len]
        refine wCall_do (cloneS_spec hv (by omega) (by simp [LFE])) ?_
        rintro w s' ⟨x1, rfl, hw⟩
        have hw' : Apd 0 x1 9 w (strRows vars) := by simpa using hw
        simp [wBsl, repl, rowsBy]
        have hsl : (strRows vars).length = vars.length := strRows_len vars
        refine wApp_row (ts := []) (x := x1) (row := [.sc (.string ⟨ns.toArray⟩)]) hw' (by simp [LFE]) strRows_row rfl (by omega) (by simp [okCell]) (by rw [hsl]; omega) (by rw [hsl]; omega) ?_
        intro w2 x2 hw2
        have e5 : strRows vars ++ [[.sc (.string ⟨ns.toArray⟩)]] = strRows (vars ++ [ns]) := by simp [strRows]
        rw [e5] at hw2
        obtain ⟨w3, hc3, hr3⟩ := hw2.rowsO.closed ([] : List (List AV)) 0
        have e6 := ih body (by simp) (vars ++ [ns]) w3 hr3 (.inr ⟨⟨_, _, _, rfl⟩, by simp⟩)
        have e7 : PureC (env R) 46 [.agg ((rowN body).map .pv), w2] fun r => CRep (conv body (vars ++ [ns])) r := by
          refine PureC.of_closed (args' := [.agg ((rowN body).map .pv), w3]) (by kernel_rfl) (by kernel_rfl) ?_ ?_ e6
          · clear hP e6 ih
            obtain ⟨k1, s1, c1, o1⟩ := body
            simp [rowN, hc3]
          · clear hP e6 ih
            obtain ⟨k1, s1, c1, o1⟩ := body
            simp [rowN, hr3.close]
        simp [rowN_len, etk]
        refine wCall_pure e7 ?_
        have hix : ∀ s : Sto, wIdx s 4 a (I64 3) fun vx9 => eqA vx9 (AV.eptr (rowN body) 0) = true := fun s => wIdx_rows ha (row := rowN body) (by omega) (by simp [rowsN]) (rowN_len _) (by omega) (by simp [eqA, eqPL_rowN])
        have hag : eqA (AV.agg ((rowN body).map .pv)) (AV.agg ((rowN body).map .pv)) = true := by
          clear hP e6 ih e7 hix
          obtain ⟨k1, s1, c1, o1⟩ := body
          simp [rowN, eqA, eqAL, eqP, eqV_int, eqV_str, eqPLL_rowsN]
        have haa := eqA_rowsN ha
        intro r hr
        cases hcb2 : conv body (vars ++ [ns]) with
        | inl e =>
          rw [hcb2] at hr
          simp only [hcb2] at hP
          obtain ⟨y, rfl, a0, rfl, ha0⟩ := hr
          simp [QP, QI, ha0.ok, hix, hag, haa, eqV_int, eqV_str]
          simp [eqA, eqAL, eqP, eqV_int, eqV_str, eqPLL, idOf]
          exact hP _ ⟨_, rfl, .capped [], rfl, .capped _⟩
        | inr tb2 =>
          rw [hcb2] at hr
          simp only [hcb2] at hP
          obtain ⟨kt2, nt2, it2, tt2⟩ := tb2
          obtain ⟨y, rfl, a2, rfl, ha2⟩ := hr
          simp [ha2.ok, hix, hag, haa, eqV_int, eqV_str]
          simp [eqA, eqAL, eqP, eqV_int, eqV_str, eqPLL, idOf]
          refine p99_4 ?_
          simp [QP, QI, ha1.ok, ha2.ok, ha1.toPV, ha2.toPV, wBsl, repl, rowsBy]
          exact hP _ ⟨_, rfl, _, rfl, by simp [rowsT, rowT]; exact .capped _⟩
  · have hl' : ¬ ((cs.length : Int) = 4) := by omega
    have hex : exR o (cs.drop 1) vars = .inl o := by
      rcases cs with _ | ⟨x1, _ | ⟨⟨nk, ns, nc, no⟩, _ | ⟨x3, _ | ⟨x4, _ | ⟨x5, r⟩⟩⟩⟩⟩ <;> first
        | rfl
        | exact absurd rfl hl
    rw [hex] at hP
    simp [ha.ok, ha.lenA, rowsN_len, hl']
    refine wCall_pure (invalid_spec ha) ?_
    rintro r rfl
    simp [QP, QI]
    exact hP _ ⟨_, rfl, .capped [], rfl, .capped _⟩
end
section
variable {R : Nat → Option (List PV)}
theorem conv_word {s : List UInt8} {cs : List Nd} {o : Int} {vars : List (List UInt8)} : conv (.mk 1 s cs o) vars = wordC s o vars := by
  rcases cs with _ | ⟨⟨hk, hs, hc, ho⟩, _ | ⟨⟨nk, ns, nc, no⟩, _ | ⟨b, _ | ⟨body, _ | ⟨z, r⟩⟩⟩⟩⟩ <;> rw [conv] <;> first
    | rfl
    | (intro nk ns nc no b body h
       simp at h)
theorem conv_other {k : Int} {s : List UInt8} {cs : List Nd} {o : Int} {vars : List (List UInt8)} (h1 : (k == 1) = false) (h3 : (k == 3) = false) : conv (.mk k s cs o) vars = .inl o := by
  rcases cs with _ | ⟨⟨hk, hs, hc, ho⟩, _ | ⟨⟨nk, ns, nc, no⟩, _ | ⟨b, _ | ⟨body, _ | ⟨z, r⟩⟩⟩⟩⟩ <;> rw [conv] <;> first
    | (rw [h1, h3]; rfl)
    | (intro nk ns nc no b body h
       simp at h)
    | (simp only [h1, h3]; rfl)
mutual
theorem term_spec : ∀ (n : Nd), fewN n → okNd n → ∀ (vars : List (List UInt8)) (v x : AV), RowsA v (strRows vars) → vars.length + grow n < 2 ^ 38 → NRep n x → PureC (env R) 46 [x, v] fun r => CRep (conv n vars) r
  | .mk k s cs o, h, ho, vars, v, x, hv, hvl, hx => by
    obtain ⟨a, rfl, ha⟩ := hx
    simp only [fewN] at h
    simp only [grow] at hvl
    simp only [okNd] at ho
    have ih := terms_spec cs h.2 ho.2
    suffices H : ∀ Post : AV → Prop, (∀ r, CRep (conv (.mk k s cs o) vars) r → Post r) → P46_0 R 0 0 0 (.agg [I64 k, SS s, a, I64 o]) v ⟨[], []⟩ (QP Post) from
      e46 (u0 := .agg [I64 k, SS s, a, I64 o]) (u1 := v) (by simp [ha.close, hv.close]) (H _ fun r h => h)
    intro Post hP
    have fin : ∀ (g : FuncId) (C : Int ⊕ Ty), (∀ r, CRep C r → Post r) → ∀ r, CRep C r → ∀ m : List (List AV), True := fun _ _ _ _ _ _ => trivial
    refine p46_0 ?_
    by_cases h1 : k = 1
    · subst h1
      rw [conv_word] at hP
      simp [ha.ok]
      refine wCall_pure (word_spec ha hv (by omega) ho.1) ?_
      intro r hr
      cases hex : wordC s o vars with
      | inl e =>
        rw [hex] at hr hP
        obtain ⟨y, rfl, a0, rfl, ha0⟩ := hr
        simp [QP, QI, ha0.ok, ha0.close]
        exact hP _ ⟨_, rfl, a0, rfl, ha0⟩
      | inr t =>
        rw [hex] at hr hP
        obtain ⟨kt, nt, it, tt⟩ := t
        obtain ⟨y, rfl, a0, rfl, ha0⟩ := hr
        simp [QP, QI, ha0.ok, ha0.close]
        exact hP _ ⟨_, rfl, a0, rfl, ha0⟩
    by_cases h3 : k = 3
    · subst h3
      have hx := exists_spec (R := R) (s := s) (o := o) (a := a) (v := v) (vars := vars) ha hv (by omega) ho.2 (fun c hc vars' v' hv' hl' => ih c hc vars' v' hv' (by
        have hg := grow_mem hc
        rcases hl' with rfl | ⟨⟨x, y, z, rfl⟩, hl'⟩
        · simp only [aLs0020]
          omega
        · have := grow_four (a := x) (b := y) (c := z) (d := c)
          omega))
      have hls := list_spec (R := R) (s := s) (o := o) ha hv (by omega) ho.2 hx (fun c hc => ih c hc vars v hv (by have := grow_mem hc; omega))
      simp [ha.ok]
      refine wCall_pure hls ?_
      intro r hr
      cases hex : conv (.mk 3 s cs o) vars with
      | inl e =>
        rw [hex] at hr hP
        obtain ⟨y, rfl, a0, rfl, ha0⟩ := hr
        simp [QP, QI, ha0.ok, ha0.close]
        exact hP _ ⟨_, rfl, a0, rfl, ha0⟩
      | inr t =>
        rw [hex] at hr hP
        obtain ⟨kt, nt, it, tt⟩ := t
        obtain ⟨y, rfl, a0, rfl, ha0⟩ := hr
        simp [QP, QI, ha0.ok, ha0.close]
        exact hP _ ⟨_, rfl, a0, rfl, ha0⟩
    have b1 : (k == 1) = false := by simpa using h1
    have b3 : (k == 3) = false := by simpa using h3
    rw [conv_other b1 b3] at hP
    simp [ha.ok, h1, h3]
    refine p46_1 ?_
    simp
    refine wCall_pure (invalid_spec ha) ?_
    rintro r rfl
    simp [QP, QI]
    exact hP _ ⟨_, rfl, .capped [], rfl, .capped _⟩
theorem terms_spec : ∀ (l : List Nd), fewNs l → okNds l → ∀ c ∈ l, ∀ (vars : List (List UInt8)) (v : AV), RowsA v (strRows vars) → vars.length + grow c < 2 ^ 38 → PureC (env R) 46 [.agg ((rowN c).map .pv), v] fun r => CRep (conv c vars) r
  | [], _, _, _, h => by cases h
  | e :: l, ho, hk, a, h => by
    simp only [fewNs] at ho
    simp only [okNds] at hk
    rcases aLs0006.1 h with h' | h'
    · rw [h']
      exact fun vars v hv hl => term_spec e ho.1 hk.1 vars v _ hv hl (NRep.of_row e)
    · exact fun vars v hv hl => terms_spec l ho.2 hk.2 a h' vars v hv hl
end
end
theorem convL_of {vars : List (List UInt8)} : ∀ (l : List Nd), (∀ c ∈ l, ∀ t, conv c vars = .inr t → size t ≤ nsize c ∧ okT t) → ∀ ts, convL l vars = .inr ts → sizeL ts ≤ nsizeL l ∧ okTs ts
  | [], _, ts, h => by
    simp only [convL, aLs0086] at h
    subst h
    simp [sizeL, nsizeL, okTs]
  | n :: l, H, ts, h => by
    simp only [convL] at h
    cases h1 : conv n vars with
    | inl e => rw [h1] at h; simp at h
    | inr t =>
      rw [h1] at h
      simp only at h
      cases h2 : convL l vars with
      | inl e => rw [h2] at h; simp at h
      | inr us =>
        rw [h2] at h
        simp only [aLs0086] at h
        subst h
        have a1 := H n (by simp) t h1
        have a2 := convL_of l (fun c hc => H c (by simp [hc])) us h2
        simp only [sizeL, nsizeL, okTs]
        exact ⟨by omega, a1.2, a2.2⟩
theorem listR_ok {kd : Int} {nm : List UInt8} {vars : List (List UInt8)} {l : List Nd} {t : Ty} (hn : okN nm) (H : ∀ c ∈ l, ∀ t, conv c vars = .inr t → size t ≤ nsize c ∧ okT t) (h : listR kd nm [] (convL l vars) = .inr t) : size t ≤ nsizeL l + 1 ∧ okT t := by
  cases h1 : convL l vars with
  | inl e => rw [h1] at h; simp [listR] at h
  | inr ts =>
    rw [h1] at h
    simp only [listR, aLs0041, aLs0086] at h
    subst h
    have := convL_of l H ts h1
    simp only [size, okT]
    exact ⟨by omega, hn, this.2⟩
theorem okN_nil : okN [] := by simp [okN]
mutual
theorem conv_ok : ∀ (n : Nd), okNd n → ∀ (vars : List (List UInt8)) (t : Ty), conv n vars = .inr t → size t ≤ nsize n ∧ okT t
  | .mk k s cs o, ho, vars, t, h => by
    simp only [okNd] at ho
    have ih := convs_ok cs ho.2
    simp only [nsize]
    by_cases h1 : k = 1
    · subst h1
      rw [conv_word] at h
      unfold wordC at h
      have one : ∀ (kd i : Int) (nm : List UInt8), okN nm → Sum.inr (Ty.mk kd nm i []) = (Sum.inr t : Int ⊕ Ty) → size t ≤ nsizeL cs + 1 ∧ okT t := by
        intro kd i nm hn e
        simp only [aLs0086] at e
        subst e
        simp [size, sizeL, okT, okTs, show nm.length < 1152921504606846976 from hn]
      cases b1 : (s == [65, 110, 121]) with
      | true => rw [b1] at h; exact one _ _ _ okN_nil h
      | false =>
        rw [b1] at h
        cases b2 : (s == [78, 101, 118, 101, 114]) with
        | true => rw [b2] at h; exact one _ _ _ okN_nil h
        | false =>
          rw [b2] at h
          simp only [aLs0009] at h
          cases hl : lastOf vars s vars.length with
          | some j => rw [hl] at h; exact one _ _ _ okN_nil h
          | none =>
            rw [hl] at h
            simp only at h
            cases b3 : (isId s && !resv.contains s) with
            | true => rw [b3] at h; exact one _ _ _ ho.1 h
            | false => rw [b3] at h; simp at h
    have b1 : (k == 1) = false := by simpa using h1
    by_cases h3 : k = 3
    · subst h3
      cases cs with
      | nil =>
        rw [conv] at h
        simp at h
      | cons hd args =>
        obtain ⟨hk, hs, hc, hoo⟩ := hd
        simp only [okNds, okNd] at ho
        have ihA : ∀ c ∈ args, ∀ t, conv c vars = .inr t → size t ≤ nsize c ∧ okT t := fun c hc t => ih c (aLs0046 _ hc) vars t
        simp only [nsizeL, nsize]
        by_cases e1 : hk = 1
        · subst e1
          rw [conv_cons] at h
          cases bE : (hs == [101, 120, 105, 115, 116, 115]) with
          | true =>
            rw [bE] at h
            simp only [aLs0004] at h
            unfold exR at h
            split at h
            · rename_i nk ns nc no b body
              cases hb : isNm (.mk nk ns nc no) with
              | false => rw [hb] at h; simp at h
              | true =>
                rw [hb] at h
                simp only [aLs0004] at h
                cases hcb : conv b [] with
                | inl e => rw [hcb] at h; simp at h
                | inr tb =>
                  rw [hcb] at h
                  simp only at h
                  cases hcb2 : conv body (vars ++ [ns]) with
                  | inl e => rw [hcb2] at h; simp at h
                  | inr tt =>
                    rw [hcb2] at h
                    simp only [aLs0086] at h
                    subst h
                    have a1 := ih b (by simp) [] tb hcb
                    have a2 := ih body (by simp) _ tt hcb2
                    simp only [size, sizeL, nsizeL, okT, okTs]
                    exact ⟨by omega, okN_nil, a1.2, a2.2, aLs0000⟩
            · simp at h
          | false =>
            rw [bE] at h
            simp only [aLs0009] at h
            cases bT : (hs == [116, 117, 112, 108, 101]) with
            | true =>
              rw [bT] at h
              have := listR_ok okN_nil ihA h
              exact ⟨by omega, this.2⟩
            | false =>
              rw [bT] at h
              simp only [aLs0009] at h
              cases bU : (hs == [117, 110, 105, 111, 110]) with
              | true =>
                rw [bU] at h
                simp only [aLs0004] at h
                cases b2 : decide (2 ≤ args.length) with
                | true =>
                  rw [b2] at h
                  have := listR_ok okN_nil ihA h
                  exact ⟨by omega, this.2⟩
                | false => rw [b2] at h; simp at h
              | false =>
                rw [bU] at h
                simp only [aLs0009] at h
                cases b0 : (args.length == 0) with
                | true => rw [b0] at h; simp at h
                | false =>
                  rw [b0] at h
                  simp only [aLs0009] at h
                  cases bn : isNm (.mk 1 hs hc hoo) with
                  | true =>
                    rw [bn] at h
                    have := listR_ok ho.2.1.1 ihA h
                    exact ⟨by omega, this.2⟩
                  | false => rw [bn] at h; simp at h
        · rw [conv_cons0 (by simpa using e1)] at h
          simp at h
    · rw [conv_other b1 (by simpa using h3)] at h
      simp at h
theorem convs_ok : ∀ (l : List Nd), okNds l → ∀ c ∈ l, ∀ (vars : List (List UInt8)) (t : Ty), conv c vars = .inr t → size t ≤ nsize c ∧ okT t
  | [], _, _, h => by cases h
  | e :: l, hk, a, h => by
    simp only [okNds] at hk
    rcases aLs0006.1 h with h' | h'
    · rw [h']
      exact conv_ok e hk.1
    · exact convs_ok l hk.2 a h'
end
def fromR (n : Nd) (vars : List (List UInt8)) : Ty × Int × Int := match conv n vars with
  | .inl e => (.mk 0 [] 0 [], 2, e)
  | .inr t => bif verdict t == 0 then (t, 0, 0) else (.mk 0 [] 0 [], verdict t, n.off)
section
variable {R : Nat → Option (List PV)}
theorem fromNode_spec {n : Nd} (h : nsize n < 2 ^ 60) (hf : fewN n) (ho : okNd n) {vars : List (List UInt8)} {v x : AV} (hv : RowsA v (strRows vars)) (hvl : vars.length + grow n < 2 ^ 38) (hx : NRep n x) :
    PureC (env R) 22 [x, v] fun r => ∃ y, r = .tuple [y, FA (fromR n vars).2.1 (fromR n vars).2.2] ∧ TRep (fromR n vars).1 y := by
  have e1 := term_spec (R := R) n hf ho vars v x hv hvl hx
  have hok := conv_ok n ho vars
  suffices H : ∀ Post : AV → Prop, (∀ y, TRep (fromR n vars).1 y → Post (.tuple [y, FA (fromR n vars).2.1 (fromR n vars).2.2])) → P22_0 R 0 0 0 x v ⟨[], []⟩ (QP Post) from by
    have hcl : closeL [] 0 0 [x, v] = some [x, v] := by
      obtain ⟨k, s, cs, o⟩ := n
      obtain ⟨a, rfl, ha⟩ := hx
      simp [ha.close, hv.close]
    exact e22 hcl (H _ fun y hy => ⟨y, rfl, hy⟩)
  intro Post hP
  unfold fromR at hP
  obtain ⟨k, s, cs, o⟩ := n
  obtain ⟨a, rfl, ha⟩ := hx
  refine p22_0 ?_
  simp [ha.ok]
  refine wCall_pure e1 ?_
  intro r hr
  cases hex : conv (.mk k s cs o) vars with
  | inl e =>
    rw [hex] at hr
    simp only [hex] at hP
    obtain ⟨y, rfl, a0, rfl, ha0⟩ := hr
    simp [QP, QI, ha0.ok, eqA, eqAL, eqP, eqV_int]
    exact hP _ ⟨.capped [], rfl, .capped _⟩
  | inr t =>
    have hk := hok t hex
    rw [hex] at hr
    simp only [hex] at hP
    obtain ⟨y, rfl, hy⟩ := hr
    have ev := validate_spec (R := R) (t := t) (by omega) hk.2 hy
    obtain ⟨kt, nt, it, tt⟩ := t
    obtain ⟨a0, rfl, ha0⟩ := hy
    simp [ha0.ok]
    refine p22_1 ?_
    simp
    refine wCall_pure ev ?_
    rintro r rfl
    generalize verdict (.mk kt nt it tt) = d at *
    by_cases h0 : d = 0
    · subst h0
      simp
      refine p22_2 ?_
      simp [QP, QI, ha0.ok, ha0.close]
      exact hP _ ⟨a0, rfl, ha0⟩
    · have b0 : (d == 0) = false := by simpa using h0
      rw [b0] at hP
      simp [QP, QI, h0, eqA, eqAL, eqP, eqV_int]
      exact hP _ ⟨.capped [], rfl, .capped _⟩
end
section
variable {R : Nat → Option (List PV)} {bs : List (List AV)} {id : Nat}
theorem mid_get (v : List AV) (m : List (List AV)) (k : Nat) : (bs.set id v ++ m)[bs.length + k]? = m[k]? := by
  have := get_app (bs.set id v) m k
  rwa [aLs0078] at this
theorem take_set (v : List AV) (m : List (List AV)) : (bs.set id v ++ m).take bs.length = bs.set id v := by
  have : (bs.set id v).length = bs.length := by simp
  rw [← this, aLs0084]
  rfl
end
abbrev T0 (k : Int) (n : List UInt8) (i : Int) : AV := .agg [I64 k, SS n, I64 i, .capped []]
theorem wIdx_rowsO {s : Sto} {k : Nat} {x : AV} {rows : List (List PV)} {i : Int} {row : List PV} {K : AV → Prop} (hx : RowsO x rows) (h0 : 0 ≤ i) (hr : rows[i.toNat]? = some row) (hl : row.length = k) (hk : 0 < k) (h : K (.eptr row 0)) : wIdx s k x (I64 i) K := by
  have e := hx.rowsOf
  rcases hx with (rfl | rfl) | ⟨t, rfl⟩ <;> simp only [wIdx, e, wO] <;> exact ⟨h0, row, hr, hl, by omega, h⟩
section
variable {R : Nat → Option (List PV)}
theorem any_spec : PureC (env R) 33 [] fun r => r = T0 0 [] 0 := by
  refine e33 (by simp) (p33_0 ?_)
  simp [QP, QI]
theorem never_spec : PureC (env R) 50 [] fun r => r = T0 1 [] 0 := by
  refine e50 (by simp) (p50_0 ?_)
  simp [QP, QI]
theorem var_spec (i : Int) : PureC (env R) 35 [I64 i] fun r => r = T0 5 [] i := by
  refine e35 (u0 := I64 i) (by simp) (p35_0 ?_)
  simp [QP, QI]
end
theorem QM_rows {rr : Bool} {n : Nat} {Post : AV → Sto → Prop} {a : AV} {rows : List (List PV)} {s : Sto} (ha : RowsO a rows) (hok : ((s.bs.take n).all (idsLtL n)) = true) (h : ∀ a', RowsO a' rows → Post a' ⟨s.bs.take n, s.ts⟩) : QM rr n Post a s := by
  obtain ⟨a', hc, hr⟩ := ha.close s.bs n s.ts.length
  refine ⟨a', _, ?_, h a' hr⟩
  have hnr : newRef rr n a = none := by rcases ha with (rfl | rfl) | ⟨t, rfl⟩ <;> simp [newRef]
  simp [keepA, hok, hnr, hc]
def LRes (bs : List (List AV)) (id : Nat) (C : Int ⊕ List Ty) (r : AV) (bs' : List (List AV)) : Prop := match C with
  | .inl e => (∃ us, RowsO r (rowsT us)) ∧ bs' = bs.set id [I64 2, I64 e]
  | .inr ts => bs' = bs ∧ RowsO r (rowsT ts)
theorem rowsT_four {l : List Ty} : ∀ r ∈ rowsT l, r.length = 4 := by
  intro r hr
  rw [rowsT_eq] at hr
  obtain ⟨z, _, rfl⟩ := aLs0052.1 hr
  exact rowT_len z
section
variable {R : Nat → Option (List PV)}
theorem LRes.rows {bs : List (List AV)} {id : Nat} {C : Int ⊕ List Ty} {r : AV} {bs' : List (List AV)} (h : LRes bs id C r bs') : ∃ rows, RowsO r rows := by
  cases C with
  | inl e => exact ⟨_, h.1.choose_spec⟩
  | inr ts => exact ⟨_, h.2⟩
end
section
variable {R : Nat → Option (List PV)}
theorem exists_rspec {k1 i1 k2 i2 : Int} {n1 n2 : List UInt8} {a1 a2 : AV} {rows1 rows2 : List (List PV)} (h1 : RowsO a1 rows1) (h2 : RowsO a2 rows2) :
    PureC (env R) 32 [.agg [I64 k1, SS n1, I64 i1, a1], .agg [I64 k2, SS n2, I64 i2, a2]] fun r => r = .agg [I64 6, SS [], I64 0, .capped [[.sc (.int .i64 k1), .sc (.string ⟨n1.toArray⟩), .sc (.int .i64 i1), .list rows1], [.sc (.int .i64 k2), .sc (.string ⟨n2.toArray⟩), .sc (.int .i64 i2), .list rows2]]] := by
  obtain ⟨b1, c1, r1⟩ := h1.closed ([] : List (List AV)) 0
  obtain ⟨b2, c2, r2⟩ := h2.closed ([] : List (List AV)) 0
  refine e32 (u0 := .agg [I64 k1, SS n1, I64 i1, b1]) (u1 := .agg [I64 k2, SS n2, I64 i2, b2]) (by simp [c1, c2]) (p32_0 ?_)
  simp [QP, QI, r1.ok, r2.ok, r1.toPV, r2.toPV, wBsl, repl, rowsBy]
theorem wSt_and2 {L : Lim} {s : Sto} {k : Nat} {a x : AV} {K K' : Sto → Prop} (hC : ∀ s, K s → K' s) (h : wSt L s k a x K) : wSt L s k a x K' := by
  unfold wSt at h ⊢
  split at h
  · obtain ⟨cs, h1, h2, h3⟩ := wO_inv h
    simp only [wO, h1]
    exact ⟨h2, hC _ h3⟩
  · exact h
theorem ld_row {E : Env} {s : Sto} {row : List PV} {K : AV → Prop} (hl : row.length = 4) (h : K (.agg (row.map .pv))) : wLd E s (some 4) (.eptr row 0) K := by
  simp only [wLd, wPart, aLs0062, hl, aLs0040, xL, xM, xF, xG]
  refine ⟨by omega, ?_⟩
  rw [aLs0019 (by simp [hl])]
  exact h
theorem eqA_self {a : AV} {us : List Ty} (h : RowsO a (rowsT us)) : eqA a a = true := by
  rcases h with (rfl | rfl) | ⟨t, rfl⟩ <;> simp [eqA, eqP, eqPLL_rows]
end
end Go.Proofs.YtmipbilokjkjiaaGreatDoor
