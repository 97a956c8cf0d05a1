/-
  Single operations, part 12: the theorem.
-/
import Derived.Test.YteaholhenmneoaaGreatDoorTelM
namespace Go.Tel

theorem conc_sound {g : Ghost} {w : World} {x : AV} {v u : Value} (h : V g w x v) (hc : conc x = some u) : v = u := by
  unfold conc at hc
  split at hc
  · simp at hc; subst hc; exact h.scv_inv
  · simp at hc

theorem quickOp_sound {E : Env} {g : Ghost} {w : World} {ρ : Nat → AV} {a : Act} (hρ : ∀ t, V g w (ρ t) (a.tmps.getD t undef)) {o : Oper} {v : AV} (hs : ∀ cs b, o.op ≠ .select cs b)
    (h : quickOp E ρ o = some v) : ∃ v', (execOp a.eval o).run E.P w = .ok (.value v') w ∧ V g w v v' := by
  unfold quickOp at h
  split at h
  · rename_i hall
    split at h
    · rename_i u hq
      simp at h; subst h
      refine ⟨u, ?_, V.ofVal u⟩
      rw [execOp_congr o hs (ρ := a.eval) (ρ' := fun x => (conc (evalO ρ x)).getD undef) (fun x hx => ?_)]
      · exact quick_run E.P _ _ hq w
      · have := List.all_eq_true.1 hall x (by simpa using hx)
        cases hc : conc (evalO ρ x) with
        | none => simp [hc] at this
        | some u => exact conc_sound (evalO_sound hρ x) hc
    · simp at h
  · simp at h

theorem map_evals {g : Ghost} {w : World} {ρ : Nat → AV} {a : Act} (hρ : ∀ t, V g w (ρ t) (a.tmps.getD t undef)) (xs : List Operand) : VL g w (xs.map (evalO ρ)) (xs.map a.eval) := by
  induction xs with
  | nil => exact .nil
  | cons x xs ih => exact .cons (evalO_sound hρ x) ih

theorem lenA_sound {E : Env} {g : Ghost} {w : World} {s : Sto} (hI : Inv E g w s) {x : AV} {v : Value} {n : Nat} (hx : V g w x v) (h : lenA s x = some n) : ∃ a c, v = .slice a n c := by
  unfold lenA at h
  split at h
  · rename_i id off len sz
    cases hal : Tel.alive s id with
    | false => simp [hal] at h
    | true =>
      simp [hal] at h; subst h
      cases hx with
      | refD hd => exact absurd hd (hI.alive hal)
      | ref => exact ⟨_, _, rfl⟩
  · split at h
    · rename_i rows hr
      simp at h; subst h
      obtain ⟨base, cap, b, o, sz, f, rfl, _, _⟩ := rowsOf_sound hx hr
      exact ⟨_, _, rfl⟩
    · simp at h

theorem nilCheck_sound {E : Env} {g : Ghost} {w : World} {s : Sto} {ρ : Nat → AV} {a : Act} {x : Operand} {v : AV} (o : Oper) (ho : o.op = .nilCheck x) (hI : Inv E g w s) (hρ : ∀ t, V g w (ρ t) (a.tmps.getD t undef))
    (h : nilCheckA s (evalO ρ x) = some v) : ∃ v', (∀ w2 : World, (execOp a.eval o).run E.P w2 = .ok (.value v') w2) ∧ V g w v v' := by
  obtain ⟨dst, op, type, pos, after, guard⟩ := o
  simp only at ho
  subst ho
  have hx := evalO_sound hρ x
  unfold nilCheckA at h
  split at h
  · rename_i id off e
    rw [e] at hx
    cases hal : Tel.alive s id with
    | false => simp [hal] at h
    | true =>
      simp [hal] at h; subst h
      generalize hv0 : a.eval x = v0 at hx
      cases hx with
      | ptrD hd => exact absurd hd (hI.alive hal)
      | ptr hb => exact ⟨_, fun w2 => by simp [execOp, hv0], .ptr hb⟩
  · rename_i e
    rw [e] at hx
    simp at h; subst h
    generalize hv0 : a.eval x = v0 at hx
    cases hx with | gptr => exact ⟨_, fun w2 => by simp [execOp, hv0], .gptr _ _⟩
  · rename_i e
    rw [e] at hx
    simp at h; subst h
    generalize hv0 : a.eval x = v0 at hx
    cases hx with | eptr _ f hr => exact ⟨_, fun w2 => by simp only [execOp, hv0, Sem.run_pure], .eptr _ f hr⟩
  · rename_i e
    rw [e] at hx
    simp at h; subst h
    generalize hv0 : a.eval x = v0 at hx
    cases hx with | func h1 h2 h3 h4 => exact ⟨_, fun w2 => by simp [execOp, hv0], .func h1 h2 h3 h4⟩
  · simp at h

theorem opA_sound {E : Env} {L : Lim} {g : Ghost} {w : World} {s s' : Sto} {ρ : Nat → AV} {a : Act} {o : Oper} {v : AV} (hI : Inv E g w s) (hρ : ∀ t, V g w (ρ t) (a.tmps.getD t undef))
    (h : opA E L ρ s o = some (v, s')) : ∃ v' w' g', Gives E o a w v' w' ∧ V g' w' v v' ∧ Ext L g w g' w' ∧ Inv E g' w' s' := by
  obtain ⟨dst, op, type, pos, after, guard⟩ := o
  -- a value and the store as it was
  have same : ∀ (r : Option AV), (match r with | some v => some (v, s) | none => none) = some (v, s') → r = some v ∧ s' = s := by
    intro r hr
    cases r with
    | none => simp at hr
    | some u => simp at hr; exact ⟨by rw [hr.1], hr.2.symm⟩
  have still : ∀ (v' : Value), (execOp a.eval ⟨dst, op, type, pos, after, guard⟩).run E.P w = .ok (.value v') w → V g w v v' → s' = s →
      ∃ v' w' g', Gives E ⟨dst, op, type, pos, after, guard⟩ a w v' w' ∧ V g' w' v v' ∧ Ext L g w g' w' ∧ Inv E g' w' s' := by
    intro v' hr hv hs
    subst hs
    exact ⟨v', w, g, .inl hr, hv, Ext.refl _ _ _, hI⟩
  have qk : (∀ cs b, op ≠ .select cs b) → quickOp E ρ ⟨dst, op, type, pos, after, guard⟩ = some v → s' = s →
      ∃ v' w' g', Gives E ⟨dst, op, type, pos, after, guard⟩ a w v' w' ∧ V g' w' v v' ∧ Ext L g w g' w' ∧ Inv E g' w' s' := by
    intro hs hq hss
    obtain ⟨v', hr, hv⟩ := quickOp_sound hρ (by exact hs) hq
    exact still v' hr hv hss
  cases op with
  | move x =>
    simp only [opA, Option.some.injEq, Prod.mk.injEq] at h
    obtain ⟨rfl, rfl⟩ := h
    exact still _ (by simp [execOp]) (evalO_sound hρ x) rfl
  | assign x =>
    simp only [opA, Option.some.injEq, Prod.mk.injEq] at h
    obtain ⟨rfl, rfl⟩ := h
    exact still _ (by simp [execOp]) (evalO_sound hρ x) rfl
  | pick c x y =>
    simp only [opA] at h
    split at h
    · rename_i t hc
      simp only [Option.some.injEq, Prod.mk.injEq] at h
      obtain ⟨rfl, rfl⟩ := h
      have hcv := evalO_sound hρ c
      rw [hc] at hcv
      have hcv := hcv.scv_inv
      cases t
      · exact still _ (by simp [execOp, hcv, asBool]) (evalO_sound hρ y) rfl
      · exact still _ (by simp [execOp, hcv, asBool]) (evalO_sound hρ x) rfl
    · simp at h
  | alloc t =>
    simp only [opA] at h
    split at h
    · rename_i z hz
      simp only [newB, Option.some.injEq, Prod.mk.injEq] at h
      obtain ⟨rfl, rfl⟩ := h
      obtain ⟨i, zv, hi, hzv, hrun, hvl⟩ := zeroOf_sound (g := g) (w := w) hz
      obtain ⟨e1, e2⟩ := hI.pushB (L := L) t hvl.full.1 hvl.full.2
      refine ⟨.pointer (some ⟨w.heap.size, 0, none⟩), _, _, .inl ?_, V.ptr (b := w.heap.size) (by simp [Ghost.addB]), e1, e2⟩
      simp [execOp, Instr.alloc, hrun, newVar, newRow, pushW]
    · simp at h
  | box t x =>
    simp only [opA] at h
    split at h
    · rename_i hok
      simp only [newB, Option.some.injEq, Prod.mk.injEq] at h
      obtain ⟨rfl, rfl⟩ := h
      have hvl := cellsOf_sound (evalO_sound hρ x) hok
      obtain ⟨e1, e2⟩ := hI.pushB (L := L) t hvl.full.1 hvl.full.2
      refine ⟨.pointer (some ⟨w.heap.size, 0, none⟩), _, _, .inl ?_, V.ptr (b := w.heap.size) (by simp [Ghost.addB]), e1, e2⟩
      simp [execOp, Instr.box, newVar, newRow, pushW]
    · simp at h
  | build t parts =>
    simp only [opA] at h
    obtain ⟨h, hs⟩ := same _ h
    obtain ⟨hk, hv⟩ := map_parts hρ parts
    obtain ⟨v', hr, hv'⟩ := buildA_sound hk hv h
    rw [Array.toArray_toList] at hr
    exact still v' (by simp only [execOp, Sem.run_bind, hr, Result.andThen_ok, Sem.run_pure]) hv' hs
  | buildSlice t len parts =>
    simp only [opA] at h
    obtain ⟨hk, hv⟩ := map_parts hρ parts
    obtain ⟨v', w', g', hr, hv', he, hi'⟩ := buildSliceA_sound (L := L) hI hk hv h
    rw [Array.toArray_toList] at hr
    exact ⟨v', w', g', .inl (by simp only [execOp, Sem.run_bind, hr, Result.andThen_ok, Sem.run_pure]), hv', he, hi'⟩
  | makeSlice t l c =>
    simp only [opA] at h
    obtain ⟨v', w', g', hr, hv', he, hi'⟩ := makeSliceA_sound (L := L) hI (evalO_sound hρ l) (evalO_sound hρ c) h
    exact ⟨v', w', g', .inl (by simp [execOp, hr]), hv', he, hi'⟩
  | load t x =>
    simp only [opA] at h
    obtain ⟨h, hs⟩ := same _ h
    obtain ⟨v', hr, hv⟩ := loadA_sound hI (evalO_sound hρ x) h
    exact still v' (by simp [execOp, hr]) hv hs
  | store t x y =>
    simp only [opA] at h
    split at h
    · rename_i s1 hst
      simp only [Option.some.injEq, Prod.mk.injEq] at h
      obtain ⟨rfl, rfl⟩ := h
      obtain ⟨w', hr, he, hi'⟩ := storeA_sound hI (evalO_sound hρ x) (evalO_sound hρ y) hst
      exact ⟨undef, w', g, .inr ⟨by simp [execOp, hr], rfl⟩, V.undef, he, hi'⟩
    · simp at h
  | nilCheck x =>
    simp only [opA] at h
    obtain ⟨h, hs⟩ := same _ h
    obtain ⟨v', hr, hv⟩ := nilCheck_sound ⟨dst, .nilCheck x, type, pos, after, guard⟩ rfl hI hρ h
    exact still v' (hr w) hv hs
  | fieldAddr t x f =>
    simp only [opA] at h
    obtain ⟨h, hs⟩ := same _ h
    obtain ⟨v', hr, hv⟩ := fieldAddrA_sound hI (evalO_sound hρ x) h
    exact still v' (by simp [execOp, hr w]) hv hs
  | field t x f =>
    simp only [opA] at h
    obtain ⟨h, hs⟩ := same _ h
    obtain ⟨v', hr, hv⟩ := fieldA_sound (evalO_sound hρ x) h
    exact still v' (by simp [execOp, hr]) hv hs
  | indexAddr t x i =>
    simp only [opA] at h
    obtain ⟨h, hs⟩ := same _ h
    obtain ⟨v', hr, hv⟩ := indexAddrA_sound hI (evalO_sound hρ x) (evalO_sound hρ i) h
    exact still v' (by simp [execOp, hr]) hv hs
  | extract x i =>
    simp only [opA] at h
    obtain ⟨h, hs⟩ := same _ h
    have hx := evalO_sound hρ x
    cases hev : evalO ρ x with
    | tuple vs =>
      rw [hev] at hx
      rw [hev] at h
      simp only [extractA] at h
      obtain ⟨us, hu, hvl⟩ := hx.tuple_inv
      obtain ⟨u, h1, h2⟩ := hvl.get h
      exact still u (by simp [execOp, hu, Instr.extract, h1]) h2 hs
    | _ => rw [hev] at h; simp [extractA] at h
  | makeFunc fn first captured =>
    simp only [opA, Option.some.injEq, Prod.mk.injEq] at h
    obtain ⟨rfl, rfl⟩ := h
    have h1 := map_evals hρ first.toList
    have h2 := map_evals hρ captured.toList
    refine still (.func fn (first.map a.eval) (captured.map a.eval)) (by simp [execOp, Instr.makeFunc]) ?_ rfl
    have := V.func (g := g) (w := w) (fn := fn) h1.len h2.len h1.at_ h2.at_
    have e1 : (List.map a.eval first.toList).toArray = first.map a.eval := by apply Array.ext'; simp
    have e2 : (List.map a.eval captured.toList).toArray = captured.map a.eval := by apply Array.ext'; simp
    rw [e1, e2] at this
    exact this
  | makeInterface t x =>
    simp only [opA] at h
    split at h
    · simp at h
    · rename_i d hne hu
      simp only [Option.some.injEq, Prod.mk.injEq] at h
      obtain ⟨rfl, rfl⟩ := h
      refine still (.iface t (a.eval x)) ?_ (.iface (evalO_sound hρ x)) rfl
      simp only [execOp, Instr.makeInterface, Sem.run_bind, run_underlying hu, Result.andThen_ok]
      cases d <;> first | rfl | exact absurd rfl (hne _)
    · simp at h
  | slice t x lo hi mx =>
    simp only [opA] at h
    split at h
    · rename_i u hsl
      simp only [Option.some.injEq, Prod.mk.injEq] at h
      obtain ⟨rfl, rfl⟩ := h
      have opt : ∀ (q : Option Operand), (∀ b, q.map (evalO ρ) = some b → ∃ c, q.map a.eval = some c ∧ V g w b c) ∧ (q.map (evalO ρ) = none → q.map a.eval = none) := by
        intro q
        cases q with
        | none => exact ⟨by simp, fun _ => rfl⟩
        | some z => exact ⟨fun b hb => by simp at hb; subst hb; exact ⟨_, rfl, evalO_sound hρ z⟩, by simp⟩
      obtain ⟨v', hr, hv⟩ := sliceA_sound hI (evalO_sound hρ x) (opt lo).1 (opt lo).2 (opt hi).1 (opt hi).2 (opt mx).1 (opt mx).2 hsl
      exact still v' (by simp [execOp, hr]) hv rfl
    · obtain ⟨h, hs⟩ := same _ h
      exact qk (by simp) h hs
  | binOp op t x y yt =>
    simp only [opA] at h
    split at h
    · rename_i u hn
      simp only [Option.some.injEq, Prod.mk.injEq] at h
      obtain ⟨rfl, rfl⟩ := h
      unfold eqNilA at hn
      cases hb : (sameKind (typeKind E.P t) (someKind s (evalO ρ x)) (nilKind ρ y) || sameKind (typeKind E.P t) (nilKind ρ x) (someKind s (evalO ρ y))) with
      | false => simp [hb] at hn
      | true =>
        simp only [hb, cond_true] at hn
        have heq : (Op.equal t (a.eval x) (a.eval y)).run E.P w = .ok false w ∧ (∀ q, (eqGuard q t x y (a.eval x) (a.eval y)).run E.P w = .ok () w) ∧
            binOp .eql t (a.eval x) (a.eval y) = (do pure (.bool (← Op.equal t (a.eval x) (a.eval y)))) ∧ binOp .neq t (a.eval x) (a.eval y) = (do pure (.bool (!(← Op.equal t (a.eval x) (a.eval y))))) := by
          rw [Bool.or_eq_true] at hb
          rcases hb with hb | hb
          · obtain ⟨k, h1, h2, h3⟩ := sameKind_sound hb
            have a1 := someKind_sound hI (evalO_sound hρ x) h2
            have a2 := nilKind_sound hρ h3
            refine ⟨(equal_nil h1 a1 a2).1, fun q => ?_, (binOp_nil a1 a2).1⟩
            rcases a1 with ⟨_, _, e⟩ | ⟨_, _, _, _, e⟩ | ⟨_, _, _, _, e⟩ | ⟨_, _, _, e⟩ <;> rw [e] <;> (unfold eqGuard; split <;> simp)
          · obtain ⟨k, h1, h2, h3⟩ := sameKind_sound hb
            have a1 := someKind_sound hI (evalO_sound hρ y) h3
            have a2 := nilKind_sound hρ h2
            refine ⟨(equal_nil h1 a1 a2).2, fun q => ?_, (binOp_nil a1 a2).2⟩
            rcases a1 with ⟨_, _, e⟩ | ⟨_, _, _, _, e⟩ | ⟨_, _, _, _, e⟩ | ⟨_, _, _, e⟩ <;> rw [e] <;> (unfold eqGuard; split <;> (first | (simp; done) | (cases a.eval x <;> simp)))
        obtain ⟨he, hg, b1, b2⟩ := heq
        split at hn
        · simp at hn; subst hn
          refine still (.bool false) ?_ (V.scv _) rfl
          simp only [execOp, Sem.run_bind, hg, Result.andThen_ok, b1, he, Sem.run_pure]
        · simp at hn; subst hn
          refine still (.bool true) ?_ (V.scv _) rfl
          simp only [execOp, Sem.run_bind, hg, Result.andThen_ok, b2, he, Sem.run_pure, Bool.not_false]
        · simp at hn
    · obtain ⟨h, hs⟩ := same _ h
      exact qk (by simp) h hs
  | unOp op t x =>
    simp only [opA] at h
    obtain ⟨h, hs⟩ := same _ h
    exact qk (by simp) h hs
  | index t x i =>
    simp only [opA] at h
    obtain ⟨h, hs⟩ := same _ h
    exact qk (by simp) h hs
  | convert sa sb x =>
    simp only [opA] at h
    have hx := evalO_sound hρ x
    split at h
    · rename_i e b hsa hsb hev
      split at h
      · rename_i he
        simp only [Option.some.injEq, Prod.mk.injEq] at h
        obtain ⟨rfl, rfl⟩ := h
        rw [hev] at hx
        have hx := hx.scv_inv
        obtain ⟨v', w', g', hr, hv, hex, hi'⟩ := stringToBytes_sound (L := L) hI e b
        refine ⟨v', w', g', .inl ?_, hv, hex, hi'⟩
        simp only [execOp, convert, hx, Sem.run_bind, run_underlying hsa, run_underlying hsb, run_underlying he, Result.andThen_ok, hr, Sem.run_pure]
      · simp at h
    · rename_i e hsa hsb
      split at h
      · rename_i l he hl
        simp only [Option.some.injEq, Prod.mk.injEq] at h
        obtain ⟨rfl, rfl⟩ := h
        obtain ⟨⟨q, n, c, hq⟩, hr⟩ := sliceBytes_sound hI hx hl
        refine still (.string ⟨l.toArray⟩) ?_ (V.scv _) rfl
        rw [hq] at hr
        simp only [execOp, hq, Sem.run_bind, run_convert_bytes_string w sa sb e q n c hsa he hsb, hr, Result.andThen_ok, Sem.run_pure]
      · simp at h
    · obtain ⟨h, hs⟩ := same _ h
      exact qk (by simp) h hs
  | call c =>
    obtain ⟨callee, args, argTypes⟩ := c
    cases callee with
    | value f => simp [opA] at h
    | invoke r n => simp [opA] at h
    | builtin b =>
      cases b with
      | len =>
        simp only [opA] at h
        split at h
        · rename_i x t ha ht
          split at h
          · rename_i e n hu hl
            simp only [Option.some.injEq, Prod.mk.injEq] at h
            obtain ⟨rfl, rfl⟩ := h
            obtain ⟨c1, c2, hq⟩ := lenA_sound hI (evalO_sound hρ x) hl
            have ha' : args = #[x] := by rw [← Array.toArray_toList (xs := args), ha]
            have ht' : argTypes = #[t] := by rw [← Array.toArray_toList (xs := argTypes), ht]
            subst ha' ht'
            refine still (.int .i64 n) ?_ (V.scv _) rfl
            simp [execOp, resolve, invoke, builtin, Builtin.len_, run_underlying hu, hq, goInt]
          · obtain ⟨h, hs⟩ := same _ h
            exact qk (by simp) h hs
        · simp at h
      | append =>
        simp only [opA] at h
        split at h
        · rename_i x y t u ts ha ht
          split at h
          · simp at h
          · rename_i d hd hu
            obtain ⟨v', w', g', hr, hv, hex, hi'⟩ := appendA_sound (T := type) (ts := ts) hI (evalO_sound hρ x) (evalO_sound hρ y) hu (fun k e => hd k e) h
            have ha' : args = #[x, y] := by rw [← Array.toArray_toList (xs := args), ha]
            have ht' : argTypes = (t :: u :: ts).toArray := by rw [← Array.toArray_toList (xs := argTypes), ht]
            subst ha' ht'
            refine ⟨v', w', g', .inl ?_, hv, hex, hi'⟩
            simp [execOp, resolve, invoke, builtin, hr]
          · simp at h
        · simp at h
      | _ =>
        simp only [opA] at h
        obtain ⟨h, hs⟩ := same _ h
        exact qk (by simp) h hs
  | _ => simp [opA] at h

end Go.Tel
