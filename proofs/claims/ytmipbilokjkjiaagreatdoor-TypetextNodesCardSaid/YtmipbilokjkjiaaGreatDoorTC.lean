/-
  Terms: the reference's comparison.
-/
import Derived.Test.YtmipbilokjkjiaaGreatDoorTB
import Derived.Test.YtmipbilokjkjiaaGreatDoorW4
import Derived.Test.YtmipbilokjkjiaaGreatDoorW5
set_option linter.unusedSimpArgs false
set_option linter.unusedVariables false
namespace Go.Proofs.YtmipbilokjkjiaaGreatDoor
open Go.Tel
attribute [local simp] wNew wBox wBoxZ markT wCond wBuild fillS wO setCells wSt wLd wPart LFE wFad alive wInt wStr wGK wGd wPick wExt wLen wSlen wNot wNil okI ceI okB ceB okS ceS okL ceL okC ceC okO ceO okP ceP okG ceG okE ceE okR ceR okF ceF okX ceX okM ceM okN ceN okNf ceNf okNi ceNi ceA roL roC roO leL leC leO tpP tpC tpO clP clC clO clF clA clT clN clL nbP nbC nbO nbN nbL toPVs
section
variable {R : Nat → Option (List PV)}
theorem order_spec (b : Bool) : PureC (env R) 71 [BB b] fun r => ∃ c : Int, r = I64 c ∧ c ≠ 0 := by
  refine e71 (u0 := BB b) (by simp) (p71_0 ?_)
  refine ⟨fun _ => ⟨_, clP, -1, rfl, by omega⟩, fun _ => p71_1 ⟨_, clP, 1, rfl, by omega⟩⟩
theorem cmp_loop {k i k' i' : Int} {n n' : List UInt8} {ts ts' : List Ty} {a a' : AV} (ha : RowsA a (rowsT ts)) (ha' : RowsA a' (rowsT ts')) (hl : sizeL ts < 2 ^ 60) (hlen : ts.length = ts'.length)
    (ih : ∀ t ∈ ts, ∀ (t' : Ty) (x x' : AV), TRep t x → TRep t' x' → PureC (env R) 43 [x, x'] fun r => ∃ c : Int, r = I64 c ∧ (c = 0 ↔ t = t')) {Post : AV → Prop} :
    ∀ (j q : Nat), q + j = ts.length → (∀ c : Int, (c = 0 ↔ ts.drop q = ts'.drop q) → Post (I64 c)) → P43_2 R 0 0 0 (.ptr 0 0) (.ptr 1 0) (I64 q) ⟨[[I64 k, SS n, I64 i, a], [I64 k', SS n', I64 i', a']], []⟩ (QP Post) := by
  have h60 := sizeL_len ts
  intro j
  induction j with
  | zero =>
    intro q hi hP
    refine p43_2 ?_
    have h1 : ¬ ((q : Int) < ts.length) := by omega
    simp [ha.lenA, rowsT_len, h1]
    refine p43_4 ?_
    have h2 : ts.drop q = [] := List.drop_of_length_le (by omega)
    have h3 : ts'.drop q = [] := List.drop_of_length_le (by omega)
    exact ⟨_, clP, hP 0 (by simp [h2, h3])⟩
  | succ j ihj =>
    intro q hi hP
    refine p43_2 ?_
    have h1 : ((q : Int) < ts.length) := by omega
    obtain ⟨t, ht⟩ : ∃ t, ts[q]? = some t := ⟨_, List.getElem?_eq_getElem (by omega)⟩
    obtain ⟨t', ht'⟩ : ∃ t, ts'[q]? = some t := ⟨_, List.getElem?_eq_getElem (by omega)⟩
    rw [drop_cons ht, drop_cons ht'] at hP
    have e3 := ih t (List.mem_of_getElem? ht) t' _ _ (TRep.of_row t) (TRep.of_row t')
    simp [ha.lenA, rowsT_len, h1]
    refine p43_3 ?_
    simp
    refine wIdx_rows ha (row := rowT t) (by omega) (by simpa using rowsT_get ht) (rowT_len t) (by omega) ?_
    simp [rowT_len]
    refine wIdx_rows ha' (row := rowT t') (by omega) (by simpa using rowsT_get ht') (rowT_len t') (by omega) ?_
    have tk : ∀ t : Ty, List.take 4 ((rowT t).map AV.pv) = (rowT t).map .pv := fun t => List.take_of_length_le (by simp [rowT_len])
    simp [rowT_len, ← List.map_take, tk]
    refine wCall_pure e3 ?_
    rintro v ⟨c, rfl, hc⟩
    by_cases h0 : c = 0
    · have e : t = t' := hc.1 h0
      subst h0
      simp
      refine p43_5 ?_
      simp only [wInt]
      refine ⟨⟨trivial, trivial⟩, wAri_fit (by omega) (by omega) ?_⟩
      have := ihj (q + 1) (by omega) (fun c h => hP c (by rw [h]; simp [e]))
      simpa using this
    · have e : t ≠ t' := fun e => h0 (hc.2 e)
      have := hP c (by simp [e, h0])
      simp [QP, QI, h0]
      exact this
mutual
theorem cmp_spec : ∀ (t : Ty), size t < 2 ^ 38 → ∀ (t' : Ty) (x x' : AV), TRep t x → TRep t' x' → PureC (env R) 43 [x, x'] fun r => ∃ c : Int, r = I64 c ∧ (c = 0 ↔ t = t')
  | .mk k n i ts, h, .mk k' n' i' ts', x, x', hx, hx' => by
    obtain ⟨a, rfl, ha⟩ := hx
    obtain ⟨a', rfl, ha'⟩ := hx'
    simp only [size] at h
    have ih := cmps_spec ts (by omega)
    suffices H : ∀ Post : AV → Prop, (∀ c : Int, (c = 0 ↔ Ty.mk k n i ts = Ty.mk k' n' i' ts') → Post (I64 c)) → P43_0 R 0 0 0 (.agg [I64 k, SS n, I64 i, a]) (.agg [I64 k', SS n', I64 i', a']) ⟨[], []⟩ (QP Post) from
      e43 (u0 := .agg [I64 k, SS n, I64 i, a]) (u1 := .agg [I64 k', SS n', I64 i', a']) (by simp [ha.close, ha'.close]) (H _ fun c hc => ⟨c, rfl, hc⟩)
    intro Post hP
    refine p43_0 ?_
    simp only [Ty.mk.injEq] at hP
    by_cases h1 : k = k'
    · subst h1
      by_cases h2 : n = n'
      · subst h2
        by_cases h3 : i = i'
        · subst h3
          by_cases h4 : ts.length = ts'.length
          · have h4' : ((ts.length : Int) = ts'.length) := by omega
            simp [ha.ok, ha'.ok, ha.lenA, ha'.lenA, rowsT_len, h4', bne]
            refine p43_1 ?_
            have := cmp_loop (k := k) (i := i) (k' := k) (i' := i) (n := n) (n' := n) ha ha' (by omega) h4 ih ts.length 0 (by omega) (Post := Post) (by
              intro c hc
              exact hP c (by simpa using hc))
            simpa using this
          · have h4' : ¬ ((ts.length : Int) = ts'.length) := by omega
            simp [ha.ok, ha'.ok, ha.lenA, ha'.lenA, rowsT_len, h4', bne]
            refine wCall_pure (order_spec _) ?_
            rintro v ⟨c, rfl, hc⟩
            exact ⟨_, clP, hP c (by simp only [hc, false_iff]; rintro ⟨_, _, _, e⟩; rw [e] at h4; exact h4 rfl)⟩
        · have h3' : (i == i') = false := by simpa using h3
          simp [ha.ok, ha'.ok, h3, bne]
          refine wCall_pure (order_spec _) ?_
          rintro v ⟨c, rfl, hc⟩
          exact ⟨_, clP, hP c (by simp [hc, h3])⟩
      · simp [ha.ok, ha'.ok, h2, bne]
        refine wCall_pure (order_spec _) ?_
        rintro v ⟨c, rfl, hc⟩
        exact ⟨_, clP, hP c (by simp [hc, h2])⟩
    · simp [ha.ok, ha'.ok, h1, bne]
      refine wCall_pure (order_spec _) ?_
      rintro v ⟨c, rfl, hc⟩
      exact ⟨_, clP, hP c (by simp [hc, h1])⟩
theorem cmps_spec : ∀ (l : List Ty), sizeL l < 2 ^ 38 → ∀ t ∈ l, ∀ (t' : Ty) (x x' : AV), TRep t x → TRep t' x' → PureC (env R) 43 [x, x'] fun r => ∃ c : Int, r = I64 c ∧ (c = 0 ↔ t = t')
  | [], _, _, h => by cases h
  | e :: l, ho, a, h => by
    simp only [sizeL] at ho
    rcases List.mem_cons.1 h with h' | h'
    · rw [h']
      exact cmp_spec e (by omega)
    · exact cmps_spec l (by omega) a h'
end
theorem tyEqual_spec {t t' : Ty} {x x' : AV} (h : size t < 2 ^ 38) (hx : TRep t x) (hx' : TRep t' x') : PureC (env R) 15 [x, x'] fun r => ∃ b : Bool, r = BB b ∧ (b = true ↔ t = t') := by
  have e := cmp_spec (R := R) t h t' x x' hx hx'
  obtain ⟨k, n, i, ts⟩ := t
  obtain ⟨k', n', i', ts'⟩ := t'
  obtain ⟨a, rfl, ha⟩ := hx
  obtain ⟨a', rfl, ha'⟩ := hx'
  refine e15 (u0 := .agg [I64 k, SS n, I64 i, a]) (u1 := .agg [I64 k', SS n', I64 i', a']) (by simp [ha.close, ha'.close]) (p15_0 ?_)
  simp [ha.ok, ha'.ok]
  refine wCall_pure e ?_
  rintro v ⟨c, rfl, hc⟩
  refine ⟨⟨rfl, rfl⟩, _, clP, ?_⟩
  by_cases h0 : c = 0
  · subst h0
    have e := hc.1 rfl
    simp only [Ty.mk.injEq] at e
    exact .inr ⟨rfl, e⟩
  · have b : (c == 0) = false := by simpa using h0
    refine .inl ⟨by rw [b], fun e1 e2 e3 e4 => h0 (hc.2 ?_)⟩
    rw [e1, e2, e3, e4]
/-- What a fault is. -/
abbrev FA (k o : Int) : AV := .agg [I64 k, I64 o]
theorem fault_spec (k o k' o' : Int) : PureC (env R) 25 [FA k o, FA k' o'] fun r => r = BB (k == k' && o == o') := by
  refine e25 (u0 := FA k o) (u1 := FA k' o') (by simp) (p25_0 ?_)
  by_cases h1 : k = k'
  · subst h1
    simp [-beq_iff_eq, QP, QI]
  · have b1 : (k == k') = false := by simpa using h1
    simp [-beq_iff_eq, -beq_eq_false_iff_ne, QP, QI, b1]
end
end Go.Proofs.YtmipbilokjkjiaaGreatDoor
/-
  Nodes as plain data, what both converters answer; words in the program.
-/
namespace Go.Proofs.YtmipbilokjkjiaaGreatDoor
open Go.Tel
attribute [local simp] wNew wBox wBoxZ markT wCond wBuild fillS wO setCells wSt wLd wPart LFE wFad alive wInt wStr wGK wGd wPick wExt wLen wSlen wNot wNil okI ceI okB ceB okS ceS okL ceL okC ceC okO ceO okP ceP okG ceG okE ceE okR ceR okF ceF okX ceX okM ceM okN ceN okNf ceNf okNi ceNi ceA roL roC roO leL leC leO tpP tpC tpO clP clC clO clF clA clT clN clL nbP nbC nbO nbN nbL toPVs
inductive Nd where
  | mk (kind : Int) (text : List UInt8) (children : List Nd) (offset : Int)
mutual
def rowN : Nd → List PV
  | .mk k s cs o => [.sc (.int .i64 k), .sc (.string ⟨s.toArray⟩), .list (rowsN cs), .sc (.int .i64 o)]
def rowsN : List Nd → List (List PV)
  | [] => []
  | v :: vs => rowN v :: rowsN vs
end
theorem rowsN_eq : ∀ l, rowsN l = l.map rowN
  | [] => by simp [rowsN]
  | v :: vs => by simp [rowsN, rowsN_eq vs]
theorem rowN_len (v : Nd) : (rowN v).length = 4 := by cases v; simp [rowN]
theorem rowsN_len (l : List Nd) : (rowsN l).length = l.length := by simp [rowsN_eq]
theorem rowsN_get {l : List Nd} {i : Nat} {a : Nd} (h : l[i]? = some a) : (rowsN l)[i]? = some (rowN a) := by simp [rowsN_eq, h]
/-- What a node is outside of slices. -/
def NRep (v : Nd) (x : AV) : Prop := match v with
  | .mk k s cs o => ∃ a, x = .agg [I64 k, SS s, a, I64 o] ∧ RowsA a (rowsN cs)
theorem NRep.of_row (v : Nd) : NRep v (.agg ((rowN v).map .pv)) := by
  cases v with
  | mk k s cs o => exact ⟨_, by simp [rowN], .list _⟩
def Nd.kind : Nd → Int | .mk k _ _ _ => k
def Nd.text : Nd → List UInt8 | .mk _ s _ _ => s
def Nd.off : Nd → Int | .mk _ _ _ o => o
def isNm (n : Nd) : Bool := n.kind == 1 && isId n.text && !resv.contains n.text
/-- The last place of a word among the first j. -/
def lastOf (vars : List (List UInt8)) (text : List UInt8) : Nat → Option Nat
  | 0 => none
  | j + 1 => bif vars[j]? == some text then some j else lastOf vars text j
/-- A word: the offset of the fault, or the term. -/
def wordC (text : List UInt8) (off : Int) (vars : List (List UInt8)) : Int ⊕ Ty :=
  bif text == [65, 110, 121] then .inr (.mk 0 [] 0 [])
  else bif text == [78, 101, 118, 101, 114] then .inr (.mk 1 [] 0 [])
  else match lastOf vars text vars.length with
    | some j => .inr (.mk 5 [] ((vars.length : Int) - 1 - j) [])
    | none => bif isId text && !resv.contains text then .inr (.mk 2 text 0 []) else .inl off
/-- What a conversion answers in the program. -/
def CRep (r : Int ⊕ Ty) (x : AV) : Prop := match r with
  | .inl o => ∃ y, x = .tuple [y, FA 2 o] ∧ TRep (.mk 0 [] 0 []) y
  | .inr t => ∃ y, x = .tuple [y, FA 0 0] ∧ TRep t y
section
variable {R : Nat → Option (List PV)}
theorem env_G7 : (env R).G 7 = some (strRow resv) := rfl
theorem invalid_spec {k o : Int} {s : List UInt8} {a : AV} {rows : List (List PV)} (ha : RowsA a rows) : PureC (env R) 74 [.agg [I64 k, SS s, a, I64 o]] fun r => r = FA 2 o := by
  refine e74 (u0 := .agg [I64 k, SS s, a, I64 o]) (by simp [ha.close]) (p74_0 ?_)
  simp [QP, QI, ha.ok]
theorem isName_spec {k o : Int} {s : List UInt8} {a : AV} {rows : List (List PV)} (ha : RowsA a rows) (hs : s.length < 2 ^ 60) : PureC (env R) 98 [.agg [I64 k, SS s, a, I64 o]] fun r => r = BB (k == 1 && isId s && !resv.contains s) := by
  refine e98 (u0 := .agg [I64 k, SS s, a, I64 o]) (by simp [ha.close]) (p98_0 ?_)
  cases h1 : (k == 1) with
  | false => simp [-beq_iff_eq, QP, QI, ha.ok, h1]
  | true =>
    have e : k = 1 := by simpa using h1
    subst e
    simp [ha.ok]
    refine wCall_pure (isIdent_spec hs) ?_
    rintro v rfl
    cases h2 : isId s with
    | false => simp [QP, QI]
    | true =>
      simp [env_G7, resv_rows]
      refine wCall_pure (containsS_spec (.list _) (by simp [resv])) ?_
      rintro v rfl
      simp [QP, QI]
def rfa : Code → Code
  | .rangeFunc _ _ a _ => a
  | c => c
def rfb : Code → Code
  | .rangeFunc _ _ _ b => b
  | c => c
theorem word_round {n0 ro rt : Nat} {t2 t3 t4 t5 t19 v j : AV} {s : Sto} {M : Out → Sto → Prop} (h : Out.norm = Out.norm ∧
 wFad s t2 1 fun a23 =>
 wLd (env R) s none a23 fun a24 =>
 wStr .eql v a24 fun a25 =>
 wCond a25 (
 wLd (env R) s none t3 fun a26 =>
 wLen s a26 fun a27 =>
 wInt .i64 .sub a27 (I64 1) fun a28 =>
 wInt .i64 .sub a28 j fun a30 =>
 wBuild [(I64 0), (SS []), (I64 0), (.capped [])] [(0, 1, (I64 5)), (2, 1, a30)] fun a31 =>
 wBuild [(I64 0), (I64 0)] [] fun a32 =>
 wSt (LFE (env R) 72 n0 ro rt) s 4 t4 a31 fun s1 =>
 wSt (LFE (env R) 72 n0 ro rt) s1 2 t5 a32 fun s2 =>
 M .ret s2) (M .norm s)) : wpo (env R) (LFE (env R) 72 n0 ro rt) 43 (rfa (sub b72 [1, 1, 0, 1, 0])) ((21, v) :: (20, j) :: [(2, t2), (3, t3), (4, t4), (5, t5), (19, t19)]) s fun o env1 s =>
    o = .norm ∧ wpo (env R) (LFE (env R) 72 n0 ro rt) 43 (rfb (sub b72 [1, 1, 0, 1, 0])) env1 s fun o _ s' => M o s' := mpK h (by kernel_rfl)
theorem word_res_eq {t2 t3 t4 t5 t19 : AV} {s : Sto} {QR : AV → Sto → Prop} : (wLd (env R) s (some 4) t4 fun r => wLd (env R) s (some 2) t5 fun r2 => QR (.tuple [r, r2]) s) =
    (wRes (env R) (lkE [(2, t2), (3, t3), (4, t4), (5, t5), (19, t19)]) s [.cell 4 25, .cell 5 35] fun vs => QR (packA vs) s) := by kernel_rfl
end
end Go.Proofs.YtmipbilokjkjiaaGreatDoor
/-
  Words, the program.
-/
namespace Go.Proofs.YtmipbilokjkjiaaGreatDoor
open Go.Tel
attribute [local simp] wNew wBox wBoxZ markT wCond wBuild fillS wO setCells wSt wLd wPart LFE wFad alive wInt wStr wGK wGd wPick wExt wLen wSlen wNot wNil okI ceI okB ceB okS ceS okL ceL okC ceC okO ceO okP ceP okG ceG okE ceE okR ceR okF ceF okX ceX okM ceM okN ceN okNf ceNf okNi ceNi ceA roL roC roO leL leC leO tpP tpC tpO clP clC clO clF clA clT clN clL nbP nbC nbO nbN nbL toPVs
section
variable {R : Nat → Option (List PV)}
theorem elem9 {b : ByteArray} : elemA (env R).P 9 [.sc (.string b)] = some (.pv (.sc (.string b))) := by kernel_rfl
theorem size9 : (sizeA (env R).P 9).isSome = true := by kernel_rfl
theorem noA : noRF (rfa (sub b72 [1, 1, 0, 1, 0])) = true := by kernel_rfl
theorem noB : noRF (rfb (sub b72 [1, 1, 0, 1, 0])) = true := by kernel_rfl
theorem code72 : sub b72 [1, 1, 0, 1, 0] = .rangeFunc (.tmp 19) #[20, 21] (rfa (sub b72 [1, 1, 0, 1, 0])) (rfb (sub b72 [1, 1, 0, 1, 0])) := by kernel_rfl
theorem word_spec {off : Int} {text : List UInt8} {c v : AV} {rows : List (List PV)} {vars : List (List UInt8)} (hc : RowsA c rows) (hv : RowsA v (strRows vars)) (hvl : vars.length < 2 ^ 50) (ht : text.length < 2 ^ 60) :
    PureC (env R) 72 [.agg [I64 1, SS text, c, I64 off], v] fun r => CRep (wordC text off vars) r := by
  suffices H : ∀ Post : AV → Prop, (∀ r, CRep (wordC text off vars) r → Post r) → P72_0 R 0 0 0 (.agg [I64 1, SS text, c, I64 off]) v ⟨[], []⟩ (QP Post) from
    e72 (u0 := .agg [I64 1, SS text, c, I64 off]) (u1 := v) (by simp [hc.close, hv.close]) (H _ fun r h => h)
  intro Post hP
  refine p72_0 ?_
  by_cases h1 : text = [65, 110, 121]
  · subst h1
    simp [QP, QI, hc.ok, hv.ok, hv.cells]
    exact hP _ ⟨_, rfl, .capped [], rfl, .capped _⟩
  by_cases h2 : text = [78, 101, 118, 101, 114]
  · subst h2
    simp [QP, QI, hc.ok, hv.ok, hv.cells]
    exact hP _ ⟨_, rfl, .capped [], rfl, .capped _⟩
  have b1 : (text == [65, 110, 121]) = false := by simpa using h1
  have b2 : (text == [78, 101, 118, 101, 114]) = false := by simpa using h2
  have hwc : wordC text off vars = match lastOf vars text vars.length with
      | some j => .inr (.mk 5 [] ((vars.length : Int) - 1 - j) [])
      | none => bif isId text && !resv.contains text then .inr (.mk 2 text 0 []) else .inl off := by
    simp only [wordC, b1, b2, cond_false] <;> cases lastOf vars text vars.length <;> rfl
  rw [hwc] at hP
  simp [hc.ok, hv.ok, hv.cells, h1, h2]
  refine p72_1 ?_
  simp
  refine wCall_do (m97 (Post := fun r s' => r = .func (.func 116) [] [.ptr 4 0] ∧ s' = ⟨[[I64 1, SS text, c, I64 off], [v], [I64 0, SS [], I64 0, .capped []], [I64 0, I64 0], [v]], []⟩) (p97_0 ?_)) ?_
  · simp [hv.ok, hv.cells]
  rintro r s' ⟨rfl, rfl⟩
  unfold P72_2
  rw [code72]
  have hlen : (strRows vars).length = vars.length := strRows_len vars
  refine wp_range (k := 116) (id := 4) (p := 20) (q := 21) (el := 9) (c := v) (rest := []) (rows := strRows vars) rfl rfl rfl rfl hv.rowsOf ?_
    (fun j s => j ≤ vars.length ∧ s = ⟨[[I64 1, SS text, c, I64 off], [v], [I64 0, SS [], I64 0, .capped []], [I64 0, I64 0], []], []⟩ ∧ lastOf vars text vars.length = lastOf vars text j) ?_ ?_ ?_
  · have h18 : Nat.ble (strRows vars).length 1000000000000000000 = true := Nat.ble_eq_true_of_le (by omega)
    simp only [noA, noB, size9, h18, Bool.and_true]
    rfl
  · exact ⟨by omega, by simp, by rw [hlen]⟩
  · rintro j s row hrow ⟨hj, rfl, hl⟩
    obtain ⟨w, hw⟩ : ∃ w, vars[j]? = some w := ⟨_, List.getElem?_eq_getElem (by omega)⟩
    have e := strRows_get hw
    rw [hrow] at e
    simp only [Option.some.injEq] at e
    subst e
    refine ⟨_, elem9, word_round ?_⟩
    refine ⟨rfl, ?_⟩
    simp [hv.lenA, hlen]
    refine ⟨?_, ?_⟩
    · intro e
      subst e
      refine wAri_fit (by omega) (by omega) ?_
      simp
      refine wAri_fit (by omega) (by omega) ?_
      have hlast : lastOf vars w vars.length = some j := by rw [hl]; simp [lastOf, hw]
      rw [hlast] at hP
      simp
      rw [← word_res_eq]
      simp [QP, QI]
      exact hP _ ⟨_, rfl, .capped [], rfl, .capped _⟩
    · intro e
      refine ⟨by omega, ?_⟩
      rw [hl]
      have : (vars[j]? == some text) = false := by
        rw [hw]
        simpa using e
      simp [lastOf, this]
  · rintro s' ⟨_, rfl, hl⟩
    have hlast : lastOf vars text vars.length = none := hl
    rw [hlast] at hP
    refine p72_2 (p72_3 ?_)
    simp
    refine wCall_pure (isName_spec hc ht) ?_
    rintro r rfl
    cases hn : (isId text && !resv.contains text) with
    | true =>
      simp only [hn, cond_true] at hP
      have : (((1 : Int) == 1) && isId text && !resv.contains text) = true := by simpa using hn
      rw [this]
      simp
      refine p72_4 ?_
      simp [QP, QI]
      exact hP _ ⟨_, rfl, .capped [], rfl, .capped _⟩
    | false =>
      simp only [hn, cond_false] at hP
      have : (((1 : Int) == 1) && isId text && !resv.contains text) = false := by
        have : (isId text && !resv.contains text) = false := hn
        rw [show ((1 : Int) == 1) = true from rfl, Bool.true_and]
        exact this
      rw [this]
      simp
      refine wCall_pure (invalid_spec hc) ?_
      rintro r rfl
      simp [QP, QI]
      exact hP _ ⟨_, rfl, .capped [], rfl, .capped _⟩
end
end Go.Proofs.YtmipbilokjkjiaaGreatDoor
