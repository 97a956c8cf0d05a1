/-
  Single operations, part 12: the theorem.
-/
import Derived.Test.YtcmeadgdojfhnaaGreatDoorEvL
import Derived.Laws.Strings
set_option linter.unusedSimpArgs false
set_option linter.unusedVariables false
namespace Go.Tel
theorem conc_sound {g : Ghost} {w : World} {x : AV} {v u : Value} (h : V g w x v) (hc : conc x = some u) : v = u := by
  unfold conc at hc
  split at hc
  · simp at hc; subst hc; exact h.scv_inv
  grind
theorem quickOp_sound {E : Env} {g : Ghost} {w : World} {ρ : Nat → AV} {a : Act} (hρ : ∀ t, V g w (ρ t) (a.tmps.getD t undef)) {o : Oper} {v : AV} (hs : ∀ cs b, o.op ≠ .select cs b)
    (h : quickOp E ρ o = some v) : ∃ v', (execOp a.eval o).run E.P w = .ok (.value v') w ∧ V g w v v' := by
  unfold quickOp at h
  split at h
  · rename_i hall
    split at h
    · rename_i u hq
      simp at h; subst h
      refine ⟨u, ?_, V.ofVal u⟩
      rw [execOp_congr o hs (ρ := a.eval) (ρ' := fun x => (conc (evalO ρ x)).getD undef) (fun x hx => ?_)]
      · grind[quick_run]
      · have := List.all_eq_true.1 hall x (by grind)
        cases hc : conc (evalO ρ x) with
        | none => grind
        | some u => exact conc_sound (evalO_sound hρ x) hc
    grind
  grind
theorem wrap_small {n : Nat} (h : n < 9223372036854775808) : IntKind.wrap .i64 (Int.ofNat n) = Int.ofNat n := by grind[IntKind.wrap,IntKind.bits]
theorem kindNo_same {k k' : IntKind} (h : Nat.beq (kindNo k) (kindNo k') = true) : k = k' := by
  cases k <;> cases k' <;> simp_all[kindNo]
theorem fastInt_sound {P : Program} {w : World} {k : IntKind} {op : BinOp} {t : TypeId} {a b : Nat} {v : Value} (h : fastInt k op a b = some v) :
    (binOp op t (.int k (.ofNat a)) (.int k (.ofNat b))).run P w = .ok v w := by
  have hb : ∀ c d : Nat, Nat.beq c d = decide (Int.ofNat c = Int.ofNat d) := fun c d => by grind[Nat.beq_eq]
  have hl : ∀ c d : Nat, Nat.blt c d = decide (Int.ofNat c < Int.ofNat d) := fun c d => by grind[Nat.blt_eq]
  have hle : ∀ c d : Nat, Nat.ble c d = decide (Int.ofNat c ≤ Int.ofNat d) := fun c d => by
    rw [Bool.eq_iff_iff, Nat.ble_eq]; simp
  cases op <;> simp only [fastInt, reduceCtorEq] at h
  case add =>
    grind[kindNo,kindNo_same,wrap_small,binOp,Op.intArith,Sem.run_pure]
  case sub =>
    grind[kindNo,kindNo_same,wrap_small,binOp,Op.intArith,Sem.run_pure]
  all_goals
    grind[binOp,Op.intCmp,Sem.run_pure]
theorem fastStr_sound {P : Program} {w : World} {op : BinOp} {t : TypeId} {a b : ByteArray} {v : Value} (h : fastStr op a.data.toList b.data.toList = some v) : (binOp op t (.string a) (.string b)).run P w = .ok v w := by
  cases op <;> simp only [fastStr, reduceCtorEq, Option.some.injEq] at h
  all_goals
    grind[binOp,Op.stringOp,Sem.run_pure,Go.ByteArray.toList_eq,bytesEq_iff,bytesLt_eq]
theorem fastBin_sound {P : Program} {g : Ghost} {w : World} {op : BinOp} {t : TypeId} {x y : AV} {xv yv v : Value} (hx : V g w x xv) (hy : V g w y yv) (h : fastBin op x y = some v) :
    (binOp op t xv yv).run P w = .ok v w ∧ ∀ a b, (eqGuard op t a b xv yv).run P w = .ok () w := by
  unfold fastBin at h
  split at h
  · rename_i k a k' b
    rw [hx.scv_inv, hy.scv_inv]
    cases hk : Nat.beq (kindNo k) (kindNo k') with
    | false => grind
    | true =>
      rw [hk] at h
      have := kindNo_same hk
      subst this
      refine ⟨fastInt_sound h, fun a b => ?_⟩
      simp[*,eqGuard]
  · rw [hx.scv_inv, hy.scv_inv]
    simp[*,fastStr_sound,eqGuard]
  grind
theorem fastUn_sound {P : Program} {g : Ghost} {w : World} {op : UnOp} {x : AV} {xv v : Value} (hx : V g w x xv) (h : fastUn op x = some v) : (Op.unary op xv).run P w = .ok v w := by
  unfold fastUn at h
  split at h
  · rw [hx.scv_inv]
    split at h
    all_goals simp_all[Op.unary]
  grind
theorem fastIndex_sound {P : Program} {g : Ghost} {w : World} {t : TypeId} {x i : AV} {xv iv v : Value} (hx : V g w x xv) (hi : V g w i iv) (h : fastIndex P t x i = some v) : (Instr.index t xv iv).run P w = .ok v w := by
  unfold fastIndex at h
  split at h
  · rename_i b k n
    rw [hx.scv_inv, hi.scv_inv]
    split at h
    · rename_i c hu hc
      simp at h; subst h
      have hs : b[n]? = some c := by
        have hlt := (List.getElem?_eq_some_iff.1 hc).1
        have he := (List.getElem?_eq_some_iff.1 hc).2
        have hlt' : n < b.size := by simp_all
        rw [getElem?_pos b n hlt']
        rw [← he]
        rfl
      simp[*,Instr.index,asIntOf,run_underlying]
    grind
  grind
theorem fastLen_sound {P : Program} {g : Ghost} {w : World} {t ty : TypeId} {x : AV} {xv v : Value} (hx : V g w x xv) (h : fastLen P t x = some v) : (Builtin.len_ #[t] ty #[xv]).run P w = .ok v w := by
  unfold fastLen at h
  split at h
  · rename_i b
    rw [hx.scv_inv]
    split at h
    all_goals simp_all[Builtin.len_,run_underlying,goInt]
  grind
theorem map_evals {g : Ghost} {w : World} {ρ : Nat → AV} {a : Act} (hρ : ∀ t, V g w (ρ t) (a.tmps.getD t undef)) (xs : List Operand) : VL g w (xs.map (evalO ρ)) (xs.map a.eval) := by
  induction xs with
  | nil => exact .nil
  | cons x xs ih => exact .cons (evalO_sound hρ x) ih
theorem lenA_sound {E : Env} {g : Ghost} {w : World} {s : Sto} (hI : Inv E g w s) {x : AV} {v : Value} {n : Nat} (hx : V g w x v) (h : lenA s x = some n) : ∃ a c, v = .slice a n c := by
  unfold lenA at h
  split at h
  · rename_i id off len sz
    cases hal : Tel.alive s id with
    | false => grind
    | true =>
      simp [hal] at h; subst h
      cases hx with
      | refD hd => exact absurd hd (hI.alive hal)
      | ref => simp
  grind[rowsOf_sound]
theorem nilCheck_sound {E : Env} {g : Ghost} {w : World} {s : Sto} {ρ : Nat → AV} {a : Act} {x : Operand} {v : AV} (o : Oper) (ho : o.op = .nilCheck x) (hI : Inv E g w s) (hρ : ∀ t, V g w (ρ t) (a.tmps.getD t undef))
    (h : nilCheckA s (evalO ρ x) = some v) : ∃ v', (∀ w2 : World, (execOp a.eval o).run E.P w2 = .ok (.value v') w2) ∧ V g w v v' := by
  obtain ⟨dst, op, type, pos, after, guard⟩ := o
  simp only at ho
  subst ho
  have hx := evalO_sound hρ x
  unfold nilCheckA at h
  split at h
  · rename_i id off e
    rw [e] at hx
    cases hal : Tel.alive s id with
    | false => grind
    | true =>
      simp [hal] at h; subst h
      generalize hv0 : a.eval x = v0 at hx
      cases hx with
      | ptrD hd => exact absurd hd (hI.alive hal)
      | ptr hb => exact ⟨_, fun w2 => by simp[*,execOp], .ptr hb⟩
  · rename_i e
    rw [e] at hx
    simp at h; subst h
    generalize hv0 : a.eval x = v0 at hx
    cases hx with | gptr => exact ⟨_, fun w2 => by simp[*,execOp], .gptr _ _⟩
  · rename_i e
    rw [e] at hx
    simp at h; subst h
    generalize hv0 : a.eval x = v0 at hx
    cases hx with | eptr _ f hr => exact ⟨_, fun w2 => by grind[execOp,Sem.run_pure], .eptr _ f hr⟩
  · rename_i e
    rw [e] at hx
    simp at h; subst h
    generalize hv0 : a.eval x = v0 at hx
    cases hx with | func h1 h2 h3 h4 => exact ⟨_, fun w2 => by simp[*,execOp], .func h1 h2 h3 h4⟩
  grind
theorem opA_sound {E : Env} {L : Lim} {g : Ghost} {w : World} {s s' : Sto} {ρ : Nat → AV} {a : Act} {o : Oper} {v : AV} (hI : Inv E g w s) (hρ : ∀ t, V g w (ρ t) (a.tmps.getD t undef))
    (h : opA E L ρ s o = some (v, s')) : ∃ v' w' g', Gives E o a w v' w' ∧ V g' w' v v' ∧ Ext L g w g' w' ∧ Inv E g' w' s' := by
  obtain ⟨dst, op, type, pos, after, guard⟩ := o
  have same : ∀ (r : Option AV), (match r with | some v => some (v, s) | none => none) = some (v, s') → r = some v ∧ s' = s := by
    intro r hr
    cases r with
    | none => grind
    | some u => grind
  have still : ∀ (v' : Value), (execOp a.eval ⟨dst, op, type, pos, after, guard⟩).run E.P w = .ok (.value v') w → V g w v v' → s' = s →
      ∃ v' w' g', Gives E ⟨dst, op, type, pos, after, guard⟩ a w v' w' ∧ V g' w' v v' ∧ Ext L g w g' w' ∧ Inv E g' w' s' := by
    intro v' hr hv hs
    subst hs
    exact ⟨v', w, g, .inl hr, hv, Ext.refl _ _ _, hI⟩
  have qk : (∀ cs b, op ≠ .select cs b) → quickOp E ρ ⟨dst, op, type, pos, after, guard⟩ = some v → s' = s →
      ∃ v' w' g', Gives E ⟨dst, op, type, pos, after, guard⟩ a w v' w' ∧ V g' w' v v' ∧ Ext L g w g' w' ∧ Inv E g' w' s' := by
    intro hs hq hss
    obtain ⟨v', hr, hv⟩ := quickOp_sound hρ (by exact hs) hq
    exact still v' hr hv hss
  cases op with
  | move x =>
    simp only [opA, Option.some.injEq, Prod.mk.injEq] at h
    obtain ⟨rfl, rfl⟩ := h
    exact still _ (by rfl) (evalO_sound hρ x) rfl
  | assign x =>
    simp only [opA, Option.some.injEq, Prod.mk.injEq] at h
    obtain ⟨rfl, rfl⟩ := h
    exact still _ (by rfl) (evalO_sound hρ x) rfl
  | pick c x y =>
    simp only [opA] at h
    split at h
    · rename_i t hc
      simp only [Option.some.injEq, Prod.mk.injEq] at h
      obtain ⟨rfl, rfl⟩ := h
      have hcv := evalO_sound hρ c
      rw [hc] at hcv
      have hcv := hcv.scv_inv
      cases t
      · exact still _ (by simp[*,execOp,asBool]) (evalO_sound hρ y) rfl
      · simp_all[execOp,asBool,evalO_sound]
    · grind
  | alloc t =>
    simp only [opA] at h
    split at h
    · rename_i z hz
      simp only [newB, Option.some.injEq, Prod.mk.injEq] at h
      obtain ⟨rfl, rfl⟩ := h
      obtain ⟨i, zv, hi, hzv, hrun, hvl⟩ := zeroOf_sound (g := g) (w := w) hz
      obtain ⟨e1, e2⟩ := hI.pushB (L := L) t hvl.full.1 hvl.full.2
      have hb : (g.addB s.bs.length w.heap.size hI.fresh).blk s.bs.length = some w.heap.size := by simp [Ghost.addB]
      have hsh : (pushW w zv.cells.toList t).shape? w.heap.size = some (t, z.length) := by
        simp [World.shape?, heap_pushW, hvl.len]
      refine ⟨.pointer (some ⟨w.heap.size, 0, none⟩), _, _, .inl ?_, V.ptr (b := w.heap.size) hb, e1, e2.markZ hb hsh⟩
      simp [execOp, Instr.alloc, hrun, newVar, newRow, pushW]
    · grind
  | box t x =>
    simp only [opA] at h
    split at h
    · rename_i hok
      simp only [newB, Option.some.injEq, Prod.mk.injEq] at h
      obtain ⟨rfl, rfl⟩ := h
      have hvl := cellsOf_sound (evalO_sound hρ x) hok
      obtain ⟨e1, e2⟩ := hI.pushB (L := L) t hvl.full.1 hvl.full.2
      have hb : (g.addB s.bs.length w.heap.size hI.fresh).blk s.bs.length = some w.heap.size := by simp [Ghost.addB]
      have hsh : (pushW w (a.eval x).cells.toList t).shape? w.heap.size = some (t, (cellsOf (evalO ρ x)).length) := by
        simp [World.shape?, heap_pushW, hvl.len]
      refine ⟨.pointer (some ⟨w.heap.size, 0, none⟩), _, _, .inl ?_, V.ptr (b := w.heap.size) hb, e1, e2.markZ hb hsh⟩
      simp [execOp, Instr.box, newVar, newRow, pushW]
    · grind
  | build t parts =>
    simp only [opA] at h
    obtain ⟨h, hs⟩ := same _ h
    obtain ⟨hk, hv⟩ := map_parts hρ parts
    obtain ⟨v', hr, hv'⟩ := buildA_sound hk hv h
    rw [Array.toArray_toList] at hr
    exact still v' (by grind[execOp,Sem.run_bind,Result.andThen_ok,Sem.run_pure]) hv' hs
  | buildSlice t len parts =>
    simp only [opA] at h
    obtain ⟨hk, hv⟩ := map_parts hρ parts
    obtain ⟨v', w', g', hr, hv', he, hi'⟩ := buildSliceA_sound (L := L) hI hk hv h
    rw [Array.toArray_toList] at hr
    exact ⟨v', w', g', .inl (by simp only [execOp, Sem.run_bind, hr, Result.andThen_ok, Sem.run_pure]), hv', he, hi'⟩
  | makeSlice t l c =>
    simp only [opA] at h
    obtain ⟨v', w', g', hr, hv', he, hi'⟩ := makeSliceA_sound (L := L) hI (evalO_sound hρ l) (evalO_sound hρ c) h
    exact ⟨v', w', g', .inl (by simp [execOp, hr]), hv', he, hi'⟩
  | load t x =>
    simp only [opA] at h
    obtain ⟨h, hs⟩ := same _ h
    obtain ⟨v', hr, hv⟩ := loadA_sound hI (evalO_sound hρ x) h
    exact still v' (by simp[*,execOp]) hv hs
  | store t x y =>
    simp only [opA] at h
    split at h
    · rename_i s1 hst
      simp only [Option.some.injEq, Prod.mk.injEq] at h
      obtain ⟨rfl, rfl⟩ := h
      obtain ⟨w', hr, he, hi'⟩ := storeA_sound hI (evalO_sound hρ x) (evalO_sound hρ y) hst
      exact ⟨undef, w', g, .inr ⟨by simp [execOp, hr], rfl⟩, V.undef, he, hi'⟩
    · grind
  | nilCheck x =>
    simp only [opA] at h
    obtain ⟨h, hs⟩ := same _ h
    obtain ⟨v', hr, hv⟩ := nilCheck_sound ⟨dst, .nilCheck x, type, pos, after, guard⟩ rfl hI hρ h
    exact still v' (hr w) hv hs
  | fieldAddr t x f =>
    simp only [opA] at h
    obtain ⟨h, hs⟩ := same _ h
    obtain ⟨v', hr, hv⟩ := fieldAddrA_sound hI (evalO_sound hρ x) h
    exact still v' (by simp[*,execOp]) hv hs
  | field t x f =>
    simp only [opA] at h
    obtain ⟨h, hs⟩ := same _ h
    obtain ⟨v', hr, hv⟩ := fieldA_sound (evalO_sound hρ x) h
    exact still v' (by simp[*,execOp]) hv hs
  | indexAddr t x i =>
    simp only [opA] at h
    obtain ⟨h, hs⟩ := same _ h
    obtain ⟨v', hr, hv⟩ := indexAddrA_sound hI (evalO_sound hρ x) (evalO_sound hρ i) h
    exact still v' (by simp[*,execOp]) hv hs
  | extract x i =>
    simp only [opA] at h
    obtain ⟨h, hs⟩ := same _ h
    have hx := evalO_sound hρ x
    cases hev : evalO ρ x with
    | tuple vs =>
      rw [hev] at hx
      rw [hev] at h
      simp only [extractA] at h
      obtain ⟨us, hu, hvl⟩ := hx.tuple_inv
      obtain ⟨u, h1, h2⟩ := hvl.get h
      exact still u (by simp[*,execOp,Instr.extract]) h2 hs
    | _ => rw [hev] at h; simp [extractA] at h
  | makeFunc fn first captured =>
    simp only [opA, Option.some.injEq, Prod.mk.injEq] at h
    obtain ⟨rfl, rfl⟩ := h
    have h1 := map_evals hρ first.toList
    have h2 := map_evals hρ captured.toList
    refine still (.func fn (first.map a.eval) (captured.map a.eval)) (by simp [execOp, Instr.makeFunc]) ?_ rfl
    have := V.func (g := g) (w := w) (fn := fn) h1.len h2.len h1.at_ h2.at_
    have e1 : (List.map a.eval first.toList).toArray = first.map a.eval := by apply Array.ext'; simp
    have e2 : (List.map a.eval captured.toList).toArray = captured.map a.eval := by apply Array.ext'; simp
    rw [e1, e2] at this
    exact this
  | makeInterface t x =>
    simp only [opA] at h
    split at h
    · simp at h
    · rename_i d hne hu
      simp only [Option.some.injEq, Prod.mk.injEq] at h
      obtain ⟨rfl, rfl⟩ := h
      refine still (.iface t (a.eval x)) ?_ (.iface (evalO_sound hρ x)) rfl
      simp only [execOp, Instr.makeInterface, Sem.run_bind, run_underlying hu, Result.andThen_ok]
      cases d <;> first | rfl | exact absurd rfl (hne _)
    · simp at h
  | slice t x lo hi mx =>
    simp only [opA] at h
    split at h
    · rename_i u hsl
      simp only [Option.some.injEq, Prod.mk.injEq] at h
      obtain ⟨rfl, rfl⟩ := h
      have opt : ∀ (q : Option Operand), (∀ b, q.map (evalO ρ) = some b → ∃ c, q.map a.eval = some c ∧ V g w b c) ∧ (q.map (evalO ρ) = none → q.map a.eval = none) := by
        intro q
        cases q with
        | none => exact ⟨by simp, fun _ => rfl⟩
        | some z => exact ⟨fun b hb => by simp at hb; subst hb; exact ⟨_, rfl, evalO_sound hρ z⟩, by simp⟩
      obtain ⟨v', hr, hv⟩ := sliceA_sound hI (evalO_sound hρ x) (opt lo).1 (opt lo).2 (opt hi).1 (opt hi).2 (opt mx).1 (opt mx).2 hsl
      exact still v' (by simp [execOp, hr]) hv rfl
    · obtain ⟨h, hs⟩ := same _ h
      exact qk (by simp) h hs
  | binOp op t x y yt =>
    simp only [opA] at h
    split at h
    · rename_i u hf
      simp only [Option.some.injEq, Prod.mk.injEq] at h
      obtain ⟨rfl, rfl⟩ := h
      obtain ⟨h1, h2⟩ := fastBin_sound (P := E.P) (t := t) (evalO_sound hρ x) (evalO_sound hρ y) hf
      exact still u (by simp only [execOp, Sem.run_bind, h2, Result.andThen_ok, h1, Sem.run_pure]) (V.scv _) rfl
    split at h
    · rename_i u hn
      simp only [Option.some.injEq, Prod.mk.injEq] at h
      obtain ⟨rfl, rfl⟩ := h
      unfold eqNilA at hn
      cases hb : (sameKind (typeKind E.P t) (someKind s (evalO ρ x)) (nilKind ρ y) || sameKind (typeKind E.P t) (nilKind ρ x) (someKind s (evalO ρ y))) with
      | false => simp [hb] at hn
      | true =>
        simp only [hb, cond_true] at hn
        have heq : (Op.equal t (a.eval x) (a.eval y)).run E.P w = .ok false w ∧ (∀ q, (eqGuard q t x y (a.eval x) (a.eval y)).run E.P w = .ok () w) ∧
            binOp .eql t (a.eval x) (a.eval y) = (do pure (.bool (← Op.equal t (a.eval x) (a.eval y)))) ∧ binOp .neq t (a.eval x) (a.eval y) = (do pure (.bool (!(← Op.equal t (a.eval x) (a.eval y))))) := by
          rw [Bool.or_eq_true] at hb
          rcases hb with hb | hb
          · obtain ⟨k, h1, h2, h3⟩ := sameKind_sound hb
            have a1 := someKind_sound hI (evalO_sound hρ x) h2
            have a2 := nilKind_sound hρ h3
            refine ⟨(equal_nil h1 a1 a2).1, fun q => ?_, (binOp_nil a1 a2).1⟩
            rcases a1 with ⟨_, _, e⟩ | ⟨_, _, _, _, e⟩ | ⟨_, _, _, _, e⟩ | ⟨_, _, _, e⟩ <;> rw [e] <;> (unfold eqGuard; split <;> simp)
          · obtain ⟨k, h1, h2, h3⟩ := sameKind_sound hb
            have a1 := someKind_sound hI (evalO_sound hρ y) h3
            have a2 := nilKind_sound hρ h2
            refine ⟨(equal_nil h1 a1 a2).2, fun q => ?_, (binOp_nil a1 a2).2⟩
            rcases a1 with ⟨_, _, e⟩ | ⟨_, _, _, _, e⟩ | ⟨_, _, _, _, e⟩ | ⟨_, _, _, e⟩ <;> rw [e] <;> simp[*,eqGuard]
        obtain ⟨he, hg, b1, b2⟩ := heq
        split at hn
        · simp at hn; subst hn
          refine still (.bool false) ?_ (V.scv _) rfl
          simp only [execOp, Sem.run_bind, hg, Result.andThen_ok, b1, he, Sem.run_pure]
        · simp at hn; subst hn
          refine still (.bool true) ?_ (V.scv _) rfl
          simp only [execOp, Sem.run_bind, hg, Result.andThen_ok, b2, he, Sem.run_pure, Bool.not_false]
        · grind
    · obtain ⟨h, hs⟩ := same _ h
      exact qk (by simp) h hs
  | unOp op t x =>
    simp only [opA] at h
    split at h
    · rename_i u hf
      simp only [Option.some.injEq, Prod.mk.injEq] at h
      obtain ⟨rfl, rfl⟩ := h
      exact still u (by simp only [execOp, Sem.run_bind, fastUn_sound (evalO_sound hρ x) hf, Result.andThen_ok, Sem.run_pure]) (V.scv _) rfl
    · obtain ⟨h, hs⟩ := same _ h
      exact qk (by simp) h hs
  | index t x i =>
    simp only [opA] at h
    split at h
    · rename_i u hf
      simp only [Option.some.injEq, Prod.mk.injEq] at h
      obtain ⟨rfl, rfl⟩ := h
      exact still u (by simp only [execOp, Sem.run_bind, fastIndex_sound (evalO_sound hρ x) (evalO_sound hρ i) hf, Result.andThen_ok, Sem.run_pure]) (V.scv _) rfl
    · obtain ⟨h, hs⟩ := same _ h
      exact qk (by simp) h hs
  | convert sa sb x =>
    simp only [opA] at h
    have hx := evalO_sound hρ x
    split at h
    · rename_i e b hsa hsb hev
      split at h
      · rename_i he
        simp only [Option.some.injEq, Prod.mk.injEq] at h
        obtain ⟨rfl, rfl⟩ := h
        rw [hev] at hx
        have hx := hx.scv_inv
        obtain ⟨v', w', g', hr, hv, hex, hi'⟩ := stringToBytes_sound (L := L) hI e b
        refine ⟨v', w', g', .inl ?_, hv, hex, hi'⟩
        simp only [execOp, convert, hx, Sem.run_bind, run_underlying hsa, run_underlying hsb, run_underlying he, Result.andThen_ok, hr, Sem.run_pure]
      · grind
    · rename_i e hsa hsb
      split at h
      · rename_i l he hl
        simp only [Option.some.injEq, Prod.mk.injEq] at h
        obtain ⟨rfl, rfl⟩ := h
        obtain ⟨⟨q, n, c, hq⟩, hr⟩ := sliceBytes_sound hI hx hl
        refine still (.string ⟨l.toArray⟩) ?_ (V.scv _) rfl
        rw [hq] at hr
        simp only [execOp, hq, Sem.run_bind, run_convert_bytes_string w sa sb e q n c hsa he hsb, hr, Result.andThen_ok, Sem.run_pure]
      · grind
    · obtain ⟨h, hs⟩ := same _ h
      exact qk (by simp) h hs
  | call c =>
    obtain ⟨callee, args, argTypes⟩ := c
    cases callee with
    | value f => simp [opA] at h
    | invoke r n => simp [opA] at h
    | builtin b =>
      cases b with
      | len =>
        simp only [opA] at h
        split at h
        · rename_i x t ha ht
          split at h
          · rename_i u hf
            simp only [Option.some.injEq, Prod.mk.injEq] at h
            obtain ⟨rfl, rfl⟩ := h
            have ha' : args = #[x] := by rw [← Array.toArray_toList (xs := args), ha]
            have ht' : argTypes = #[t] := by rw [← Array.toArray_toList (xs := argTypes), ht]
            subst ha' ht'
            refine still u ?_ (V.scv _) rfl
            have := fastLen_sound (P := E.P) (ty := type) (evalO_sound hρ x) hf
            simp [execOp, resolve, invoke, builtin, this]
          split at h
          · rename_i e n hu hl
            simp only [Option.some.injEq, Prod.mk.injEq] at h
            obtain ⟨rfl, rfl⟩ := h
            obtain ⟨c1, c2, hq⟩ := lenA_sound hI (evalO_sound hρ x) hl
            have ha' : args = #[x] := by rw [← Array.toArray_toList (xs := args), ha]
            have ht' : argTypes = #[t] := by rw [← Array.toArray_toList (xs := argTypes), ht]
            subst ha' ht'
            refine still (.int .i64 n) ?_ (V.scv _) rfl
            simp [execOp, resolve, invoke, builtin, Builtin.len_, run_underlying hu, hq, goInt]
          · obtain ⟨h, hs⟩ := same _ h
            exact qk (by simp) h hs
        · grind
      | append =>
        simp only [opA] at h
        split at h
        · rename_i x y t u ts ha ht
          split at h
          · simp at h
          · rename_i d hd hu
            obtain ⟨v', w', g', hr, hv, hex, hi'⟩ := appendA_sound (T := type) (ts := ts) hI (evalO_sound hρ x) (evalO_sound hρ y) hu (fun k e => hd k e) h
            have ha' : args = #[x, y] := by rw [← Array.toArray_toList (xs := args), ha]
            have ht' : argTypes = (t :: u :: ts).toArray := by rw [← Array.toArray_toList (xs := argTypes), ht]
            subst ha' ht'
            refine ⟨v', w', g', .inl ?_, hv, hex, hi'⟩
            simp [execOp, resolve, invoke, builtin, hr]
          · grind
        · grind
      | delete =>
        simp only [opA] at h
        split at h
        · rename_i m k t ts ha ht
          split at h
          · rename_i s1 hd
            simp only [Option.some.injEq, Prod.mk.injEq] at h
            obtain ⟨rfl, rfl⟩ := h
            have ha' : args = #[m, k] := by rw [← Array.toArray_toList (xs := args), ha]
            have ht' : argTypes = (t :: ts).toArray := by rw [← Array.toArray_toList (xs := argTypes), ht]
            subst ha' ht'
            obtain ⟨w', hr, he, hi'⟩ := deleteA_sound (ty := type) (ts := ts) hI (evalO_sound hρ m) (evalO_sound hρ k) hd
            refine ⟨undef, w', g, .inl ?_, V.undef, he, hi'⟩
            simp [execOp, resolve, invoke, builtin, hr]
          · grind
        · grind
      | _ =>
        simp only [opA] at h
        obtain ⟨h, hs⟩ := same _ h
        exact qk (by simp) h hs
  | makeMap t r =>
    cases r with
    | some r => simp [opA] at h
    | none =>
      simp only [opA, Option.some.injEq, Prod.mk.injEq] at h
      obtain ⟨rfl, rfl⟩ := h
      obtain ⟨he, hi'⟩ := hI.newMap (L := L)
      refine ⟨.map (some w.heap.size), _, _, .inl ?_, .mref (if_pos rfl), he, hi'⟩
      simp [execOp, Instr.makeMap, objW]
  | lookup t m k ok =>
    simp only [opA] at h
    obtain ⟨h, hs⟩ := same _ h
    obtain ⟨v', hr, hv⟩ := lookupA_sound hI (evalO_sound hρ m) (evalO_sound hρ k) h
    exact still v' (by simp[*,execOp]) hv hs
  | mapUpdate t m k x =>
    simp only [opA] at h
    split at h
    · rename_i s1 hst
      simp only [Option.some.injEq, Prod.mk.injEq] at h
      obtain ⟨rfl, rfl⟩ := h
      obtain ⟨w', hr, he, hi'⟩ := mapUpdateA_sound hI (evalO_sound hρ m) (evalO_sound hρ k) (evalO_sound hρ x) hst
      exact ⟨undef, w', g, .inr ⟨by simp [execOp, hr], rfl⟩, V.undef, he, hi'⟩
    · grind
  | insert t m k x =>
    simp only [opA] at h
    split at h
    · rename_i s1 hst
      simp only [Option.some.injEq, Prod.mk.injEq] at h
      obtain ⟨rfl, rfl⟩ := h
      obtain ⟨w', hr, he, hi'⟩ := mapUpdateA_sound hI (evalO_sound hρ m) (evalO_sound hρ k) (evalO_sound hρ x) hst
      exact ⟨undef, w', g, .inr ⟨by simp [execOp, hr], rfl⟩, V.undef, he, hi'⟩
    · grind
  | _ => simp [opA] at h
end Go.Tel
