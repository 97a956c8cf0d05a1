/-
  Terms: the reference's comparison.
-/
import Derived.Test.YtmipbilokjkjiaaGreatDoorTB
import Derived.Test.YtmipbilokjkjiaaGreatDoorW4
import Derived.Test.YtmipbilokjkjiaaGreatDoorW5
set_option linter.unusedSimpArgs false
set_option linter.unusedVariables false
namespace Go.Proofs.YtmipbilokjkjiaaGreatDoor
open Go.Tel
attribute [local simp] wNew wBox wBoxZ markT wCond wBuild fillS wO setCells wSt wLd wPart LFE wFad alive wInt wStr wGK wGd wPick wExt wLen wSlen wNot wNil okI ceI okB ceB okS ceS okL ceL okC ceC okO ceO okP ceP okG ceG okE ceE okR ceR okF ceF okX ceX okM ceM okN ceN okNf ceNf okNi ceNi ceA roL roC roO leL leC leO tpP tpC tpO clP clC clO clF clA clT clN clL nbP nbC nbO nbN nbL toPVs
section
variable {R : Nat → Option (List PV)}
theorem order_spec (b : Bool) : PureC (env R) 71 [BB b] fun r => ∃ c : Int, r = I64 c ∧ c ≠ 0 := by
  refine e71 (u0 := BB b) (by simp) (p71_0 ?_)
  refine ⟨fun _ => ⟨_, clP, -1, rfl, by omega⟩, fun _ => p71_1 ⟨_, clP, 1, rfl, by omega⟩⟩
theorem cmp_loop {k i k' i' : Int} {n n' : List UInt8} {ts ts' : List Ty} {a a' : AV} (ha : RowsA a (rowsT ts)) (ha' : RowsA a' (rowsT ts')) (hl : sizeL ts < 2 ^ 60) (hlen : ts.length = ts'.length)
    (ih : ∀ t ∈ ts, ∀ (t' : Ty) (x x' : AV), TRep t x → TRep t' x' → PureC (env R) 43 [x, x'] fun r => ∃ c : Int, r = I64 c ∧ (c = 0 ↔ t = t')) {Post : AV → Prop} :
    ∀ (j q : Nat), q + j = ts.length → (∀ c : Int, (c = 0 ↔ ts.drop q = ts'.drop q) → Post (I64 c)) → P43_2 R 0 0 0 (.ptr 0 0) (.ptr 1 0) (I64 q) ⟨[[I64 k, SS n, I64 i, a], [I64 k', SS n', I64 i', a']], []⟩ (QP Post) := by
  have h60 := sizeL_len ts
  intro j
  induction j with
  | zero =>
    intro q hi hP
    refine p43_2 ?_
    have h1 : ¬ ((q : Int) < ts.length) := by omega
    simp [ha.lenA, rowsT_len, h1]
    refine p43_4 ?_
    have h2 : ts.drop q = [] := List.drop_of_length_le (by omega)
    have h3 : ts'.drop q = [] := List.drop_of_length_le (by omega)
    exact ⟨_, clP, hP 0 (by simp [h2, h3])⟩
  | succ j ihj =>
    intro q hi hP
    refine p43_2 ?_
    have h1 : ((q : Int) < ts.length) := by omega
    obtain ⟨t, ht⟩ : ∃ t, ts[q]? = some t := ⟨_, List.getElem?_eq_getElem (by omega)⟩
    obtain ⟨t', ht'⟩ : ∃ t, ts'[q]? = some t := ⟨_, List.getElem?_eq_getElem (by omega)⟩
    rw [drop_cons ht, drop_cons ht'] at hP
    have e3 := ih t (List.mem_of_getElem? ht) t' _ _ (TRep.of_row t) (TRep.of_row t')
    simp [ha.lenA, rowsT_len, h1]
    refine p43_3 ?_
    simp
    refine wIdx_rows ha (row := rowT t) (by omega) (by simpa using rowsT_get ht) (rowT_len t) (by omega) ?_
    simp [rowT_len]
    refine wIdx_rows ha' (row := rowT t') (by omega) (by simpa using rowsT_get ht') (rowT_len t') (by omega) ?_
    have tk : ∀ t : Ty, List.take 4 ((rowT t).map AV.pv) = (rowT t).map .pv := fun t => List.take_of_length_le (by simp [rowT_len])
    simp [rowT_len, ← List.map_take, tk]
    refine wCall_pure e3 ?_
    rintro v ⟨c, rfl, hc⟩
    by_cases h0 : c = 0
    · have e : t = t' := hc.1 h0
      subst h0
      simp
      refine p43_5 ?_
      simp only [wInt]
      refine ⟨⟨trivial, trivial⟩, wAri_fit (by omega) (by omega) ?_⟩
      have := ihj (q + 1) (by omega) (fun c h => hP c (by rw [h]; simp [e]))
      simpa using this
    · have e : t ≠ t' := fun e => h0 (hc.2 e)
      have := hP c (by simp [e, h0])
      simp [QP, QI, h0]
      exact this
mutual
theorem cmp_spec : ∀ (t : Ty), size t < 2 ^ 38 → ∀ (t' : Ty) (x x' : AV), TRep t x → TRep t' x' → PureC (env R) 43 [x, x'] fun r => ∃ c : Int, r = I64 c ∧ (c = 0 ↔ t = t')
  | .mk k n i ts, h, .mk k' n' i' ts', x, x', hx, hx' => by
    obtain ⟨a, rfl, ha⟩ := hx
    obtain ⟨a', rfl, ha'⟩ := hx'
    simp only [size] at h
    have ih := cmps_spec ts (by omega)
    suffices H : ∀ Post : AV → Prop, (∀ c : Int, (c = 0 ↔ Ty.mk k n i ts = Ty.mk k' n' i' ts') → Post (I64 c)) → P43_0 R 0 0 0 (.agg [I64 k, SS n, I64 i, a]) (.agg [I64 k', SS n', I64 i', a']) ⟨[], []⟩ (QP Post) from
      e43 (u0 := .agg [I64 k, SS n, I64 i, a]) (u1 := .agg [I64 k', SS n', I64 i', a']) (by simp [ha.close, ha'.close]) (H _ fun c hc => ⟨c, rfl, hc⟩)
    intro Post hP
    refine p43_0 ?_
    simp only [Ty.mk.injEq] at hP
    by_cases h1 : k = k'
    · subst h1
      by_cases h2 : n = n'
      · subst h2
        by_cases h3 : i = i'
        · subst h3
          by_cases h4 : ts.length = ts'.length
          · have h4' : ((ts.length : Int) = ts'.length) := by omega
            simp [ha.ok, ha'.ok, ha.lenA, ha'.lenA, rowsT_len, h4', bne]
            refine p43_1 ?_
            have := cmp_loop (k := k) (i := i) (k' := k) (i' := i) (n := n) (n' := n) ha ha' (by omega) h4 ih ts.length 0 (by omega) (Post := Post) (by
              intro c hc
              exact hP c (by simpa using hc))
            simpa using this
          · have h4' : ¬ ((ts.length : Int) = ts'.length) := by omega
            simp [ha.ok, ha'.ok, ha.lenA, ha'.lenA, rowsT_len, h4', bne]
            refine wCall_pure (order_spec _) ?_
            rintro v ⟨c, rfl, hc⟩
            exact ⟨_, clP, hP c (by simp only [hc, false_iff]; rintro ⟨_, _, _, e⟩; rw [e] at h4; exact h4 rfl)⟩
        · have h3' : (i == i') = false := by simpa using h3
          simp [ha.ok, ha'.ok, h3, bne]
          refine wCall_pure (order_spec _) ?_
          rintro v ⟨c, rfl, hc⟩
          exact ⟨_, clP, hP c (by simp [hc, h3])⟩
      · simp [ha.ok, ha'.ok, h2, bne]
        refine wCall_pure (order_spec _) ?_
        rintro v ⟨c, rfl, hc⟩
        exact ⟨_, clP, hP c (by simp [hc, h2])⟩
    · simp [ha.ok, ha'.ok, h1, bne]
      refine wCall_pure (order_spec _) ?_
      rintro v ⟨c, rfl, hc⟩
      exact ⟨_, clP, hP c (by simp [hc, h1])⟩
theorem cmps_spec : ∀ (l : List Ty), sizeL l < 2 ^ 38 → ∀ t ∈ l, ∀ (t' : Ty) (x x' : AV), TRep t x → TRep t' x' → PureC (env R) 43 [x, x'] fun r => ∃ c : Int, r = I64 c ∧ (c = 0 ↔ t = t')
  | [], _, _, h => by cases h
  | e :: l, ho, a, h => by
    simp only [sizeL] at ho
    rcases List.mem_cons.1 h with h' | h'
    · rw [h']
      exact cmp_spec e (by omega)
    · exact cmps_spec l (by omega) a h'
end
theorem tyEqual_spec {t t' : Ty} {x x' : AV} (h : size t < 2 ^ 38) (hx : TRep t x) (hx' : TRep t' x') : PureC (env R) 15 [x, x'] fun r => ∃ b : Bool, r = BB b ∧ (b = true ↔ t = t') := by
  have e := cmp_spec (R := R) t h t' x x' hx hx'
  obtain ⟨k, n, i, ts⟩ := t
  obtain ⟨k', n', i', ts'⟩ := t'
  obtain ⟨a, rfl, ha⟩ := hx
  obtain ⟨a', rfl, ha'⟩ := hx'
  refine e15 (u0 := .agg [I64 k, SS n, I64 i, a]) (u1 := .agg [I64 k', SS n', I64 i', a']) (by simp [ha.close, ha'.close]) (p15_0 ?_)
  simp [ha.ok, ha'.ok]
  refine wCall_pure e ?_
  rintro v ⟨c, rfl, hc⟩
  refine ⟨⟨rfl, rfl⟩, _, clP, ?_⟩
  by_cases h0 : c = 0
  · subst h0
    have e := hc.1 rfl
    simp only [Ty.mk.injEq] at e
    exact .inr ⟨rfl, e⟩
  · have b : (c == 0) = false := by simpa using h0
    refine .inl ⟨by rw [b], fun e1 e2 e3 e4 => h0 (hc.2 ?_)⟩
    rw [e1, e2, e3, e4]
abbrev FA (k o : Int) : AV := .agg [I64 k, I64 o]
end
end Go.Proofs.YtmipbilokjkjiaaGreatDoor
/-
  Nodes as plain data, what both converters answer; words in the program.
-/
namespace Go.Proofs.YtmipbilokjkjiaaGreatDoor
open Go.Tel
attribute [local simp] wNew wBox wBoxZ markT wCond wBuild fillS wO setCells wSt wLd wPart LFE wFad alive wInt wStr wGK wGd wPick wExt wLen wSlen wNot wNil okI ceI okB ceB okS ceS okL ceL okC ceC okO ceO okP ceP okG ceG okE ceE okR ceR okF ceF okX ceX okM ceM okN ceN okNf ceNf okNi ceNi ceA roL roC roO leL leC leO tpP tpC tpO clP clC clO clF clA clT clN clL nbP nbC nbO nbN nbL toPVs
inductive Nd where
  | mk (kind : Int) (text : List UInt8) (children : List Nd) (offset : Int)
mutual
def rowN : Nd → List PV
  | .mk k s cs o => [.sc (.int .i64 k), .sc (.string ⟨s.toArray⟩), .list (rowsN cs), .sc (.int .i64 o)]
def rowsN : List Nd → List (List PV)
  | [] => []
  | v :: vs => rowN v :: rowsN vs
end
def NRep (v : Nd) (x : AV) : Prop := match v with
  | .mk k s cs o => ∃ a, x = .agg [I64 k, SS s, a, I64 o] ∧ RowsA a (rowsN cs)
theorem NRep.of_row (v : Nd) : NRep v (.agg ((rowN v).map .pv)) := by
  cases v with
  | mk k s cs o => exact ⟨_, by simp [rowN], .list _⟩
def Nd.kind : Nd → Int | .mk k _ _ _ => k
def Nd.text : Nd → List UInt8 | .mk _ s _ _ => s
def Nd.off : Nd → Int | .mk _ _ _ o => o
def isNm (n : Nd) : Bool := n.kind == 1 && isId n.text && !resv.contains n.text
def lastOf (vars : List (List UInt8)) (text : List UInt8) : Nat → Option Nat
  | 0 => none
  | j + 1 => bif vars[j]? == some text then some j else lastOf vars text j
def wordC (text : List UInt8) (off : Int) (vars : List (List UInt8)) : Int ⊕ Ty :=
  bif text == [65, 110, 121] then .inr (.mk 0 [] 0 [])
  else bif text == [78, 101, 118, 101, 114] then .inr (.mk 1 [] 0 [])
  else match lastOf vars text vars.length with
    | some j => .inr (.mk 5 [] ((vars.length : Int) - 1 - j) [])
    | none => bif isId text && !resv.contains text then .inr (.mk 2 text 0 []) else .inl off
def CRep (r : Int ⊕ Ty) (x : AV) : Prop := match r with
  | .inl o => ∃ y, x = .tuple [y, FA 2 o] ∧ TRep (.mk 0 [] 0 []) y
  | .inr t => ∃ y, x = .tuple [y, FA 0 0] ∧ TRep t y
section
variable {R : Nat → Option (List PV)}
def rfa : Code → Code
  | .rangeFunc _ _ a _ => a
  | c => c
def rfb : Code → Code
  | .rangeFunc _ _ _ b => b
  | c => c
end
end Go.Proofs.YtmipbilokjkjiaaGreatDoor
/-
  Words, the program.
-/
namespace Go.Proofs.YtmipbilokjkjiaaGreatDoor
open Go.Tel
attribute [local simp] wNew wBox wBoxZ markT wCond wBuild fillS wO setCells wSt wLd wPart LFE wFad alive wInt wStr wGK wGd wPick wExt wLen wSlen wNot wNil okI ceI okB ceB okS ceS okL ceL okC ceC okO ceO okP ceP okG ceG okE ceE okR ceR okF ceF okX ceX okM ceM okN ceN okNf ceNf okNi ceNi ceA roL roC roO leL leC leO tpP tpC tpO clP clC clO clF clA clT clN clL nbP nbC nbO nbN nbL toPVs
end Go.Proofs.YtmipbilokjkjiaaGreatDoor
