/-
  slices.Clone of words; the conversion of nodes.
-/
import Derived.Test.YtmipbilokjkjiaaGreatDoorTC
import Derived.Test.YtmipbilokjkjiaaGreatDoorW6
set_option linter.unusedSimpArgs false
set_option linter.unusedVariables false
namespace Go.Proofs.YtmipbilokjkjiaaGreatDoor
open Go.Tel
mutual
def conv : Nd → List (List UInt8) → Int ⊕ Ty
  | .mk k s cs o, vars =>
    bif k == 1 then wordC s o vars
    else bif k == 3 then
      match cs with
      | [] => .inl o
      | .mk hk hs hc ho :: args =>
        bif !(hk == 1) then .inl o
        else bif hs == [101, 120, 105, 115, 116, 115] then
          match args with
          | [.mk nk ns nc no, b, body] =>
            bif isNm (.mk nk ns nc no) then
              match conv b [] with
              | .inl e => .inl e
              | .inr tb => match conv body (vars ++ [ns]) with
                | .inl e => .inl e
                | .inr tt => .inr (.mk 6 [] 0 [tb, tt])
            else .inl no
          | _ => .inl o
        else bif hs == [116, 117, 112, 108, 101] then
          match convL args vars with
          | .inl e => .inl e
          | .inr l => .inr (.mk 3 [] 0 l)
        else bif hs == [117, 110, 105, 111, 110] then
          bif decide (2 ≤ args.length) then
            match convL args vars with
            | .inl e => .inl e
            | .inr l => .inr (.mk 4 [] 0 l)
          else .inl o
        else bif args.length == 0 then .inl o
        else bif isNm (.mk hk hs hc ho) then
          match convL args vars with
          | .inl e => .inl e
          | .inr l => .inr (.mk 2 hs 0 l)
        else .inl ho
    else .inl o
def convL : List Nd → List (List UInt8) → Int ⊕ List Ty
  | [], _ => .inr []
  | n :: l, vars => match conv n vars with
    | .inl e => .inl e
    | .inr t => match convL l vars with
      | .inl e => .inl e
      | .inr ts => .inr (t :: ts)
end
section
variable {R : Nat → Option (List PV)}
theorem strRows_row {l : List (List UInt8)} : ∀ r ∈ strRows l, r.length = 1 := by
  intro r hr
  obtain ⟨n, _, rfl⟩ := List.mem_map.1 hr
  rfl
theorem strRows_ok {l : List (List UInt8)} : ((strRows l).flatten.map AV.pv).all okCell = true := by
  induction l with
  | nil => rfl
  | cons n l _ => simp [strRows, okCell]
theorem cloneS_spec {vars : List (List UInt8)} {v : AV} (hv : RowsA v (strRows vars)) (hl : vars.length < 2 ^ 40) {L : Lim} {s : Sto} (hrt : L.rt ≤ s.ts.length) :
    ∃ r s', (∃ x', s' = ⟨s.bs, s.ts ++ x'⟩ ∧ Apd s.ts.length (s.ts ++ x') 9 r (strRows vars)) ∧ CallE (env R) L 61 [v] s r s' := by
  cases vars with
  | nil =>
    refine ⟨.capped [], s, ⟨[], by simp, .inl rfl⟩, call_empty Tryz.func61 (by kernel_rfl) (by kernel_rfl) ?_⟩
    rcases hv with rfl | rfl <;> rfl
  | cons w l =>
    have he : emptyArg [v] = false := by rcases hv with rfl | rfl <;> rfl
    have key : P61_0 R L.n0 L.ro L.rt v s (fun r s' => ∃ x', s' = ⟨s.bs, s.ts ++ x'⟩ ∧ Apd s.ts.length (s.ts ++ x') 9 r (strRows (w :: l))) := by
      refine p61_0 ?_
      have hnn : ∀ K : AV → Prop, K (BB false) → wNeN s (some 1) (nilV v) (some 1) .eql v (.capped []) K := by
        intro K h
        refine ⟨?_, h⟩
        rcases hv with rfl | rfl <;> rfl
      refine hnn _ ⟨by simp, fun _ => p61_1 ?_⟩
      simp [wBsl, repl, fillS, wO, toPVs, rowsBy]
      have hL : (strRows (w :: l)).length = l.length + 1 := by simp [strRows]
      simp only [List.length_cons] at hl
      have := wApp_rows (L := LFE (env R) 61 L.n0 L.ro L.rt) (bs := s.bs) (ts := s.ts) (x := []) (e := 9) (k := 1) (bytes := 16) (a := .capped []) (y := v) (rows := []) (m := strRows (w :: l))
        (K := fun r s' => ∃ x', s' = ⟨s.bs, s.ts ++ x'⟩ ∧ Apd s.ts.length (s.ts ++ x') 9 r (strRows (w :: l))) (.inl rfl) hrt (by simp) strRows_row (by omega) (srcCells_rows (.inl hv) strRows_row) strRows_ok (by rw [hL]; simp; omega) (by rw [hL]; simp; omega)
        (fun a x h => ⟨x, rfl, by simpa using h⟩)
      simpa using this
    exact call_esc2 (fn := Tryz.f61) (body := b61) Tryz.func61 (by kernel_rfl) (by kernel_rfl) (by kernel_rfl) (by kernel_rfl) he (Nat.le_of_ble_eq_true (by kernel_rfl)) (mpK key (by kernel_rfl))
end
end Go.Proofs.YtmipbilokjkjiaaGreatDoor
/-
  The conversion of a list of nodes, the program: its loop.
-/
namespace Go.Proofs.YtmipbilokjkjiaaGreatDoor
open Go.Tel
attribute [local simp] wNew wBox wBoxZ markT wCond wBuild fillS wO setCells wSt wLd wPart LFE wFad alive wInt wStr wGK wGd wPick wExt wLen wSlen wNot wNil okI ceI okB ceB okS ceS okL ceL okC ceC okO ceO okP ceP okG ceG okE ceE okR ceR okF ceF okX ceX okM ceM okN ceN okNf ceNf okNi ceNi ceA roL roC roO leL leC leO tpP tpC tpO clP clC clO clF clA clT clN clL nbP nbC nbO nbN nbL toPVs
mutual
def nsize : Nd → Nat
  | .mk _ _ cs _ => nsizeL cs + 1
def nsizeL : List Nd → Nat
  | [] => 0
  | a :: l => nsize a + nsizeL l
end
mutual
def okNd : Nd → Prop
  | .mk _ s cs _ => s.length < 2 ^ 60 ∧ okNds cs
def okNds : List Nd → Prop
  | [] => True
  | t :: l => okNd t ∧ okNds l
end
mutual
def fewN : Nd → Prop
  | .mk _ _ cs _ => cs.length < 2 ^ 30 ∧ fewNs cs
def fewNs : List Nd → Prop
  | [] => True
  | t :: l => fewN t ∧ fewNs l
end
mutual
def grow : Nd → Nat
  | .mk _ _ cs _ => growL cs
def growL : List Nd → Nat
  | [] => 0
  | [t] => grow t + 1
  | t :: u :: l => max (grow t) (growL (u :: l))
end
def listR (kd : Int) (nm : List UInt8) (done : List Ty) : Int ⊕ List Ty → Int ⊕ Ty
  | .inl e => .inl e
  | .inr l => .inr (.mk kd nm 0 (done ++ l))
end Go.Proofs.YtmipbilokjkjiaaGreatDoor
/-
  The conversion of a list of nodes, the program.
-/
namespace Go.Proofs.YtmipbilokjkjiaaGreatDoor
open Go.Tel
attribute [local simp] wNew wBox wBoxZ markT wCond wBuild fillS wO setCells wSt wLd wPart LFE wFad alive wInt wStr wGK wGd wPick wExt wLen wSlen wNot wNil okI ceI okB ceB okS ceS okL ceL okC ceC okO ceO okP ceP okG ceG okE ceE okR ceR okF ceF okX ceX okM ceM okN ceN okNf ceNf okNi ceNi ceA roL roC roO leL leC leO tpP tpC tpO clP clC clO clF clA clT clN clL nbP nbC nbO nbN nbL toPVs
mutual
theorem eqPL_rowN : ∀ t : Nd, eqPL (rowN t) (rowN t) = true
  | .mk k n ts i => by simp [rowN, eqPL, eqP, eqV_int, eqV_str, eqPLL_rowsN ts]
theorem eqPLL_rowsN : ∀ l : List Nd, eqPLL (rowsN l) (rowsN l) = true
  | [] => by simp [rowsN, eqPLL]
  | t :: l => by simp [rowsN, eqPLL, eqPL_rowN t, eqPLL_rowsN l]
end
def exR (o : Int) (args : List Nd) (vars : List (List UInt8)) : Int ⊕ Ty := match args with
  | [.mk nk ns nc no, b, body] =>
    bif isNm (.mk nk ns nc no) then
      match conv b [] with
      | .inl e => .inl e
      | .inr tb => match conv body (vars ++ [ns]) with
        | .inl e => .inl e
        | .inr tt => .inr (.mk 6 [] 0 [tb, tt])
    else .inl no
  | _ => .inl o
end Go.Proofs.YtmipbilokjkjiaaGreatDoor
/-
  The conversion of an 'exists' node, the program.
-/
namespace Go.Proofs.YtmipbilokjkjiaaGreatDoor
open Go.Tel
attribute [local simp] wNew wBox wBoxZ markT wCond wBuild fillS wO setCells wSt wLd wPart LFE wFad alive wInt wStr wGK wGd wPick wExt wLen wSlen wNot wNil okI ceI okB ceB okS ceS okL ceL okC ceC okO ceO okP ceP okG ceG okE ceE okR ceR okF ceF okX ceX okM ceM okN ceN okNf ceNf okNi ceNi ceA roL roC roO leL leC leO tpP tpC tpO clP clC clO clF clA clT clN clL nbP nbC nbO nbN nbL toPVs
end Go.Proofs.YtmipbilokjkjiaaGreatDoor
/-
  The conversion of a node, the program: FromNode.
-/
namespace Go.Proofs.YtmipbilokjkjiaaGreatDoor
open Go.Tel
attribute [local simp] wNew wBox wBoxZ markT wCond wBuild fillS wO setCells wSt wLd wPart LFE wFad alive wInt wStr wGK wGd wPick wExt wLen wSlen wNot wNil okI ceI okB ceB okS ceS okL ceL okC ceC okO ceO okP ceP okG ceG okE ceE okR ceR okF ceF okX ceX okM ceM okN ceN okNf ceNf okNi ceNi ceA roL roC roO leL leC leO tpP tpC tpO clP clC clO clF clA clT clN clL nbP nbC nbO nbN nbL toPVs
end Go.Proofs.YtmipbilokjkjiaaGreatDoor
/-
  FromNode, the program.
-/
namespace Go.Proofs.YtmipbilokjkjiaaGreatDoor
open Go.Tel
attribute [local simp] wNew wBox wBoxZ markT wCond wBuild fillS wO setCells wSt wLd wPart LFE wFad alive wInt wStr wGK wGd wPick wExt wLen wSlen wNot wNil okI ceI okB ceB okS ceS okL ceL okC ceC okO ceO okP ceP okG ceG okE ceE okR ceR okF ceF okX ceX okM ceM okN ceN okNf ceNf okNi ceNi ceA roL roC roO leL leC leO tpP tpC tpO clP clC clO clF clA clT clN clL nbP nbC nbO nbN nbL toPVs
def fromR (n : Nd) (vars : List (List UInt8)) : Ty × Int × Int := match conv n vars with
  | .inl e => (.mk 0 [] 0 [], 2, e)
  | .inr t => bif verdict t == 0 then (t, 0, 0) else (.mk 0 [] 0 [], verdict t, n.off)
end Go.Proofs.YtmipbilokjkjiaaGreatDoor
