/-
  A region in the order of its text.
-/
import Derived.Test.YtedmfigcajdkbaaGreatDoorTelY
namespace Go.Tel

/-- The state that the evaluator has, and the walk's. -/
structure Sim (E : Env) (g : Ghost) (w : World) (st : St) (a : Act) : Prop where
  inv : Inv E g w st.s
  size : a.tmps.size = st.N
  tmps : ∀ t, V g w (st.ρ t) (a.tmps.getD t undef)

theorem Sim.put {E : Env} {L : Lim} {g g' : Ghost} {w w' : World} {st st' : St} {a : Act} {s : Sto} {d : Option Nat} {v : AV} {u : Value} (h : Sim E g w st a) (hp : putA { st with s := s } d v = some st') (he : Ext L g w g' w') (hi : Inv E g' w' s) (hv : V g' w' v u) :
    Sim E g' w' st' (a.put d u) ∧ st'.N = st.N := by
  obtain ⟨a1, a2, a3, a4⟩ := putA_some hp
  refine ⟨⟨by rw [a2]; exact hi, by rw [put_size, a1]; exact h.size, fun t => ?_⟩, a1⟩
  by_cases ht : d = some t
  · subst ht
    obtain ⟨b1, b2⟩ := a3 t rfl
    rw [put_same (by rw [h.size]; exact b1), b2]
    exact hv
  · rw [put_other ht, a4 t ht]
    exact (h.tmps t).mono he

theorem range'_cons (i n : Nat) : List.range' i (n + 1) = i :: List.range' (i + 1) n := by simp [List.range']

section
variable {E : Env} {L : Lim} {cf : CallF} {ops : Array Oper} {Q : Exit → Act → World → Prop}

theorem wpOps_yes {i : Nat} {rest : List Nat} {o : Oper} {a : Act} {w : World} (ho : ops[i]? = some o) (hw : Region.wanted o (yielded ops a.tmps) = true) (h : o.wp E.P a w (wpOps E.P ops Q rest) Q) : wpOps E.P ops Q (i :: rest) a w := by
  simp only [wpOps, ho, hw, if_true]
  exact .inl h

theorem wpOps_no {i : Nat} {rest : List Nat} {o : Oper} {a : Act} {w : World} (ho : ops[i]? = some o) (hw : Region.wanted o (yielded ops a.tmps) = false) (h : wpOps E.P ops Q rest (a.put o.dst undef) w) : wpOps E.P ops Q (i :: rest) a w := by
  simp only [wpOps, ho, hw, Bool.false_eq_true, if_false]
  exact h

theorem wpOps_run {i : Nat} {rest : List Nat} {o : Oper} {a : Act} {w w' : World} {v : Value} (ho : ops[i]? = some o) (hg : o.guard = none) (hr : (execOp a.eval o).run E.P w = .ok (.value v) w' ∨ ((execOp a.eval o).run E.P w = .ok .skip w' ∧ v = undef))
    (h : wpOps E.P ops Q rest (a.put o.dst v) w') : wpOps E.P ops Q (i :: rest) a w := by
  refine wpOps_yes ho (by simp [Region.wanted, hg]) ?_
  unfold Oper.wp
  rcases hr with hr | ⟨hr, rfl⟩ <;> rw [hr] <;> exact h

theorem fuse_seq {g : Ghost} {w : World} {st st' : St} {a : Act} {o o1 o2 : Oper} {k : Fuse} {v : AV} {s : Sto} {i : Nat} {rest : List Nat} (h : Sim E g w st a) (ho : ops[i]? = some o) (ho1 : ops[i + 1]? = some o1) (ho2 : ops[i + 2]? = some o2)
    (hf : fused o o1 o2 = some k) (hfu : fuseA E L st.ρ st.s k = some (v, s)) (hst : fuseSt st k v s = some st')
    (hk : ∀ a' w' g', Sim E g' w' st' a' → a'.defers = a.defers → Ext L g w g' w' → st'.N = st.N → wpOps E.P ops Q rest a' w') : wpOps E.P ops Q (i :: (i + 1) :: (i + 2) :: rest) a w := by
  obtain ⟨f1, f2, f3, f4, f5, f6, f7, f8, f9, f10, f11⟩ := fused_inv hf
  have hap := fused_apart hf
  have hVx := evalO_sound h.tmps k.x
  have hVy := evalO_sound h.tmps k.y
  have hVi := evalO_sound h.tmps k.ix
  have hVv := evalO_sound h.tmps k.v
  unfold fuseSt at hst
  split at hst
  · rename_i st1 hp1
    unfold fuseA at hfu
    split at hfu
    · rename_i elem hu
      split at hfu
      · rename_i hmu
        split at hfu
        · rename_i ti rows z n row hti hrows hz hnn hrow
          split at hfu
          · rename_i hcnd
            obtain ⟨q1, q2, q3, q4, q5, q6, q7⟩ := hcnd
            have hvl := cellsOf_sound hVv q4
            obtain ⟨t1, t2⟩ := toPVs_sound hvl hrow
            obtain ⟨b, cap, vz, e, w1, wv, g', a1, a2, a3, a4, a5, a6, a7, a8⟩ := appendRow_open (T := o.type) h.inv hu hti q6 q7 hVx hrows hVy hz q2 q5 (us := (a.eval k.v).cells.toList) (by omega) q3 t2 hfu
            obtain ⟨kk, hix⟩ := natOfA_sound hVi hnn
            obtain ⟨s1, n1⟩ := h.put hp1 a3 a4 a2
            have hp2 : putA { st1 with s := st1.s } (some k.p) .junk = some st' := hst
            obtain ⟨s2, n2⟩ := s1.put (u := .pointer (some ⟨b, rows.length * ti.size, none⟩)) hp2 (Ext.refl L g' wv) s1.inv .junk
            have hszv : (a.eval k.v).cells.size = ti.size := by rw [← Array.length_toList]; omega
            have hd : k.d < a.tmps.size := by
              obtain ⟨_, _, x3, _⟩ := putA_some hp1
              rw [h.size]; exact (x3 k.d rfl).1
            have hpN : k.p < a.tmps.size := by
              obtain ⟨_, _, x3, _⟩ := putA_some hst
              have := (x3 k.p rfl).1
              rw [h.size]; rw [n1] at this; exact this
            have evalD : ∀ z, z = k.ix ∨ z = k.v → ∀ u u', ((a.put (some k.d) u).put (some k.p) u').eval z = a.eval z ∧ (a.put (some k.d) u).eval z = a.eval z := fun z hz u u' => by
              have hz' := hap z (by rcases hz with e | e <;> simp [e])
              have e1 : (a.put (some k.d) u).eval z = a.eval z := eval_put_ne fun t ht hdt => hz'.1 (by simp at hdt; rw [ht, hdt])
              exact ⟨(eval_put_ne fun t ht hdt => hz'.2 (by simp at hdt; rw [ht, hdt])).trans e1, e1⟩
            have hw1 : w1.heap[b]? = some (.cells ⟨vz⟩ e (0, 0)) := by rw [a6, heap_putRowB, if_pos rfl, if_pos (lt_of_getElem? a5)]
            refine wpOps_run ho f8.1 (v := .slice (some ⟨b, 0, none⟩) (rows.length + 1) cap) (w' := w1) (.inl ?_) ?_
            · obtain ⟨dst, op, type, pos, after, guard⟩ := o
              simp only at f1
              subst f1
              simp only [execOp, resolve, invoke, builtin, Sem.run_bind, Sem.run_pure, Result.andThen_ok]
              have : (#[k.x, k.y].map a.eval) = #[a.eval k.x, a.eval k.y] := by simp
              rw [this, a1]
              simp
            rw [f2]
            refine wpOps_run ho1 f8.2.1 (v := .pointer (some ⟨b, rows.length * ti.size, none⟩)) (w' := w1) (.inl ?_) ?_
            · have e1 : (a.put (some k.d) (.slice (some ⟨b, 0, none⟩) (rows.length + 1) cap)).eval (.tmp k.d) = .slice (some ⟨b, 0, none⟩) (rows.length + 1) cap := put_same hd
              have e2 := (evalD k.ix (.inl rfl) (.slice (some ⟨b, 0, none⟩) (rows.length + 1) cap) undef).2
              rw [hix, q1] at e2
              obtain ⟨dst, op, type, pos, after, guard⟩ := o1
              simp only at f3
              subst f3
              simp [execOp, Instr.indexAt, e1, e2, asIntOf, run_underlying hu, run_sizeOf hti, addr_add]
            rw [f4]
            refine wpOps_run ho2 f8.2.2 (v := undef) (w' := wv) (.inr ⟨?_, rfl⟩) ?_
            · have e1 : ((a.put (some k.d) (.slice (some ⟨b, 0, none⟩) (rows.length + 1) cap)).put (some k.p) (.pointer (some ⟨b, rows.length * ti.size, none⟩))).eval (.tmp k.p) = .pointer (some ⟨b, rows.length * ti.size, none⟩) := put_same (by rw [put_size]; exact hpN)
              have e2 := (evalD k.v (.inr rfl) (.slice (some ⟨b, 0, none⟩) (rows.length + 1) cap) (.pointer (some ⟨b, rows.length * ti.size, none⟩))).1
              obtain ⟨dst, op, type, pos, after, guard⟩ := o2
              simp only at f5
              subst f5
              have hst := storeCells_run (P := E.P) (b := b) (o := rows.length * ti.size) (e := e) (a.eval k.v).cells.toList 0 w1 vz (VL.one hvl q4) hw1 (by omega)
              have heq : putRowB w1 b (setV vz (rows.length * ti.size) (a.eval k.v).cells.toList) e = wv := by rw [a6, putRowB_putRowB, putRowB_same a5]
              simp only [execOp, e1, e2, Instr.storeAt, Instr.sureAddr, storeVar, Sem.run_bind, Sem.run_pure, Result.andThen_ok, hmu.2, run_sizeOf hti, hszv, ne_eq, not_true_eq_false, if_false]
              simp only [Nat.add_zero] at hst
              rw [hst, heq]
              rfl
            rw [f6]
            exact hk _ wv g' s2 (by simp [Act.put]) a3 (n2.trans n1)
          · simp at hfu
        · simp at hfu
      · simp at hfu
    · simp at hfu
  · simp at hst

theorem opsA_sound (hcf : CallOk E L cf) : ∀ (n i : Nat) (l : List Oper) (st st' : St) (a : Act) (w : World) (g : Ghost), l.length = n → l = ops.toList.drop i → Sim E g w st a → opsA E L cf ops l st = some st' →
    (∀ a' w' g', Sim E g' w' st' a' → a'.defers = a.defers → Ext L g w g' w' → st'.N = st.N → Q .normal a' w') → wpOps E.P ops Q (List.range' i l.length) a w := by
  intro n
  induction n using Nat.strongRecOn with
  | ind n ih =>
    intro i l st st' a w g hn hl hs h hQ
    cases l with
    | nil =>
      simp [opsA] at h
      subst h
      exact hQ a w g hs rfl (Ext.refl _ _ _) rfl
    | cons o rest =>
      have hget : ∀ (j : Nat) q, (o :: rest)[j]? = some q → ops[i + j]? = some q := fun j q hq => by
        rw [hl, List.getElem?_drop] at hq; simpa using hq
      have hdrop : ∀ j, (o :: rest).drop j = ops.toList.drop (i + j) := fun j => by rw [hl, List.drop_drop]
      have one : (match guardOk ops st.ρ o with
          | some true => match stepA E L cf st o with
            | some st => opsA E L cf ops rest st
            | none => none
          | some false => match putA st o.dst (.tuple []) with
            | some st => opsA E L cf ops rest st
            | none => none
          | none => none) = some st' → wpOps E.P ops Q (List.range' i (o :: rest).length) a w := by
        intro h
        rw [List.length_cons, range'_cons]
        have hlt : rest.length < n := by simp at hn; omega
        have hrest : rest = ops.toList.drop (i + 1) := by simpa using hdrop 1
        split at h
        · rename_i hg
          split at h
          · rename_i st1 hst
            unfold stepA at hst
            split at hst
            · rename_i v s hact
              refine wpOps_yes (hget 0 o rfl) (guardOk_sound hs.tmps hg) (actA_sound hcf hs.inv hs.tmps hact fun v' w' g' hV hE hI => ?_)
              obtain ⟨s1, n1⟩ := hs.put hst hE hI hV
              exact ih rest.length hlt (i + 1) rest st1 st' _ w' g' rfl hrest s1 h fun a' w'' g'' q1 q2 q3 q4 => hQ a' w'' g'' q1 (q2.trans (put_defers _ _ _)) (hE.trans q3) (q4.trans n1)
            · simp at hst
          · simp at h
        · rename_i hg
          split at h
          · rename_i st1 hst
            refine wpOps_no (hget 0 o rfl) (guardOk_sound hs.tmps hg) ?_
            obtain ⟨s1, n1⟩ := hs.put (L := L) (s := st.s) hst (Ext.refl L g w) hs.inv V.undef
            exact ih rest.length hlt (i + 1) rest st1 st' _ w g rfl hrest s1 h fun a' w'' g'' q1 q2 q3 q4 => hQ a' w'' g'' q1 (q2.trans (put_defers _ _ _)) q3 (q4.trans n1)
          · simp at h
        · simp at h
      unfold opsA at h
      simp only at h
      split at h
      · rename_i o1 o2 rest'
        split at h
        · rename_i k hf
          split at h
          · rename_i v s hfu
            split at h
            · rename_i st1 hst
              have hlt : rest'.length < n := by simp at hn; omega
              simp only [List.length_cons]
              rw [range'_cons, range'_cons, range'_cons]
              refine fuse_seq hs (hget 0 o rfl) (hget 1 o1 rfl) (hget 2 o2 rfl) hf hfu hst fun a' w' g' q1 q2 q3 q4 => ?_
              exact ih rest'.length hlt (i + 3) rest' st1 st' a' w' g' rfl (by simpa using hdrop 3) q1 h fun a'' w'' g'' p1 p2 p3 p4 => hQ a'' w'' g'' p1 (p2.trans q2) (q3.trans p3) (p4.trans q4)
            · simp at h
          · exact one h
        · exact one h
      · exact one h

end
end Go.Tel
