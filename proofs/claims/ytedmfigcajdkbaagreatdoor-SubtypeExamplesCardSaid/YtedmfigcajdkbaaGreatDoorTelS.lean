/-
  What may happen while a row is appended but not yet written.
-/
import Derived.Test.YtedmfigcajdkbaaGreatDoorTelR
namespace Go.Tel

theorem putRowB_comm {w : World} {b b' : Nat} {vs us : List Value} {e e' : TypeId} (h : b ≠ b') : putRowB (putRowB w b vs e) b' us e' = putRowB (putRowB w b' us e') b vs e := by
  refine world_ext ?_ rfl rfl rfl rfl
  exact Array.setIfInBounds_comm _ _ h

theorem storeA_any {E : Env} {L : Lim} {g : Ghost} {w : World} {s s' : Sto} (hI : Inv E g w s) {t : TypeId} {a x : AV} {av xv : Value}
    (ha : V g w a av) (hx : V g w x xv) (h : storeA E L s t a x = some s') :
    ∃ id b vs e, g.blk id = some b ∧ Ext L g w g (putRowB w b vs e) ∧ Inv E g (putRowB w b vs e) s' ∧
      ∀ w2 : World, w2.heap[b]? = w.heap[b]? → (Instr.storeAt t av xv).run E.P w2 = .ok () (putRowB w2 b vs e) := by
  unfold storeA at h
  split at h
  · rename_i id off i hi
    split at h
    · rename_i cs hcs
      simp only at h
      split at h
      · rename_i hc
        obtain ⟨h1, h2, h3, h4, _, hi0⟩ := hc
        simp at h; subst h
        simp only [lookB] at hcs
        cases ha with
        | ptrD hd =>
          have := hI.deadE id hd
          rw [hcs] at this; simp at this; subst this
          rw [h1] at h2; simp at h2; omega
        | @ptr _ _ b hb =>
          obtain ⟨cs', vs, e, k1, k2, kle, k3⟩ := hI.blk id b hb
          rw [hcs] at k1; simp at k1; subst k1
          have hv := cellsOf_sound hx h4
          have hone : ∀ u ∈ xv.cells.toList, u.oneCell' = true := VL.one hv h4
          have hlen : xv.cells.size = i.size := by rw [← Array.length_toList, ← hv.len]; exact h1
          obtain ⟨q1, q2⟩ := hI.putRow (L := L) (vs' := setV vs off xv.cells.toList) (cs' := setCells cs off (cellsOf x)) hb k2 (setV_length _ _ _) h3 (by rw [setCells_length, setV_length]; exact kle) (by rw [setCells_length, setV_take]; exact VL.setCells off k3 hv)
          refine ⟨id, b, _, e, hb, q1, q2, fun w2 hw2 => ?_⟩
          simp only [Instr.storeAt, Instr.sureAddr, storeVar, Sem.run_bind, Sem.run_pure, Result.andThen_ok, run_sizeOf hi, hlen, ne_eq, not_true_eq_false, if_false]
          have := storeCells_run (P := E.P) (b := b) (o := off) (e := e) xv.cells.toList 0 w2 vs hone (hw2.trans k2) (by rw [← hv.len]; omega)
          simpa using this
      · simp at h
    · simp at h
  · simp at h

/-- These operations see nothing of the world. -/
theorem safe_run {E : Env} {L : Lim} {g : Ghost} {w : World} {s : Sto} {ρ : Nat → AV} {a : Act} {o : Oper} {v : AV} (ho : (∃ x, o.op = .nilCheck x) ∨ (∃ t x f, o.op = .fieldAddr t x f) ∨ (∃ x, o.op = .move x))
    (hI : Inv E g w s) (hρ : ∀ t, V g w (ρ t) (a.tmps.getD t undef)) (h : quietA E L ρ s o = some v) :
    ∃ v', (∀ w2 : World, (execOp a.eval o).run E.P w2 = .ok (.value v') w2) ∧ V g w v v' := by
  have h := quietA_opA h
  obtain ⟨dst, op, type, pos, after, guard⟩ := o
  rcases ho with ⟨x, rfl⟩ | ⟨t, x, f, rfl⟩ | ⟨x, rfl⟩
  · simp only [opA] at h
    split at h
    · rename_i u hu
      simp at h; subst h
      exact nilCheck_sound _ rfl hI hρ hu
    · simp at h
  · simp only [opA] at h
    split at h
    · rename_i u hu
      simp at h; subst h
      obtain ⟨v', hr, hv⟩ := fieldAddrA_sound hI (evalO_sound hρ x) hu
      exact ⟨v', fun w2 => by simp [execOp, hr w2], hv⟩
    · simp at h
  · simp only [opA, Option.some.injEq, Prod.mk.injEq] at h
    obtain ⟨rfl, _⟩ := h
    exact ⟨_, fun w2 => by simp [execOp], evalO_sound hρ x⟩

end Go.Tel
