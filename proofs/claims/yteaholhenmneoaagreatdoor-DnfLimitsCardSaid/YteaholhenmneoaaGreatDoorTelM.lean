/-
  Single operations, part 11: all together.
-/
import Derived.Test.YteaholhenmneoaaGreatDoorTelL
namespace Go.Tel

/-- What an operation that is no call of a Go function gives. -/
def Gives (E : Env) (o : Oper) (a : Act) (w : World) (v : Value) (w' : World) : Prop :=
  (execOp a.eval o).run E.P w = .ok (.value v) w' ∨ ((execOp a.eval o).run E.P w = .ok .skip w' ∧ v = undef)

theorem someKind_sound {E : Env} {g : Ghost} {w : World} {s : Sto} (hI : Inv E g w s) {x : AV} {v : Value} {k : Nat} (hx : V g w x v) (h : someKind s x = some k) :
    (k = 0 ∧ ∃ a, v = .pointer (some a)) ∨ (k = 1 ∧ ∃ a n c, v = .slice (some a) n c) ∨ (k = 2 ∧ ∃ f p q, v = .func f p q) ∨ (k = 3 ∧ ∃ t u, v = .iface t u) := by
  unfold someKind at h
  split at h
  · rename_i id off
    cases hal : Tel.alive s id with
    | false => simp [hal] at h
    | true =>
      simp [hal] at h
      cases hx with
      | ptr => exact .inl ⟨h.symm, _, rfl⟩
      | ptrD hd => exact absurd hd (hI.alive hal)
  · simp at h; cases hx with | gptr => exact .inl ⟨h.symm, _, rfl⟩
  · simp at h; cases hx with | eptr => exact .inl ⟨h.symm, _, rfl⟩
  · simp at h; cases hx with | func => exact .inr (.inr (.inl ⟨h.symm, _, _, _, rfl⟩))
  · simp at h; cases hx with | iface => exact .inr (.inr (.inr ⟨h.symm, _, _, rfl⟩))
  · rename_i id off len sz
    cases hal : Tel.alive s id with
    | false => simp [hal] at h
    | true =>
      simp [hal] at h
      cases hx with
      | ref => exact .inr (.inl ⟨h.symm, _, _, _, rfl⟩)
      | refD hd => exact absurd hd (hI.alive hal)
  · split at h
    · rename_i c r rs hr
      simp at h
      obtain ⟨base, cap, b, o, sz, f, rfl, _, hra⟩ := rowsOf_sound hx hr
      have := hra.hbase (by simp) (by rw [← hra.hsz (c :: r) (by simp)]; simp)
      subst this
      exact .inr (.inl ⟨h.symm, _, _, _, rfl⟩)
    · simp at h

theorem nilKind_sound {g : Ghost} {w : World} {ρ : Nat → AV} {a : Act} (hρ : ∀ t, V g w (ρ t) (a.tmps.getD t undef)) {x : Operand} {k : Nat} (h : nilKind ρ x = some k) :
    (k = 0 ∧ a.eval x = .pointer none) ∨ (k = 1 ∧ a.eval x = .slice none 0 0) ∨ (k = 2 ∧ a.eval x = .nilFunc) ∨ (k = 3 ∧ a.eval x = .nilIface) := by
  unfold nilKind at h
  split at h
  · simp at h; exact .inr (.inl ⟨h.symm, rfl⟩)
  · have hx := evalO_sound hρ x
    split at h
    · rename_i e; rw [e] at hx; simp at h; exact .inl ⟨h.symm, hx.scv_inv⟩
    · rename_i e; rw [e] at hx; simp at h; exact .inr (.inr (.inl ⟨h.symm, hx.scv_inv⟩))
    · rename_i e; rw [e] at hx; simp at h; exact .inr (.inr (.inr ⟨h.symm, hx.scv_inv⟩))
    · simp at h

theorem typeKind_sound {P : Program} {t : TypeId} {k : Nat} (h : typeKind P t = some k) :
    (k = 0 ∧ ∃ e, P.underlying t = some (.pointer e)) ∨ (k = 1 ∧ ∃ e, P.underlying t = some (.slice e)) ∨ (k = 2 ∧ ∃ p r v, P.underlying t = some (.func p r v)) ∨ (k = 3 ∧ ∃ m, P.underlying t = some (.interface m)) := by
  unfold typeKind at h
  split at h
  · simp at h; exact .inl ⟨h.symm, _, by assumption⟩
  · simp at h; exact .inr (.inl ⟨h.symm, _, by assumption⟩)
  · simp at h; exact .inr (.inr (.inl ⟨h.symm, _, _, _, by assumption⟩))
  · simp at h; exact .inr (.inr (.inr ⟨h.symm, _, by assumption⟩))
  · simp at h

theorem sameKind_sound {a b c : Option Nat} (h : sameKind a b c = true) : ∃ k, a = some k ∧ b = some k ∧ c = some k := by
  unfold sameKind at h
  split at h
  · rename_i x y z
    simp at h
    exact ⟨x, rfl, by rw [h.1], by rw [h.2]⟩
  · simp at h

theorem equal_nil {P : Program} {w : World} {t : TypeId} {x y : Value} {k : Nat} (ht : typeKind P t = some k)
    (hx : (k = 0 ∧ ∃ a, x = .pointer (some a)) ∨ (k = 1 ∧ ∃ a n c, x = .slice (some a) n c) ∨ (k = 2 ∧ ∃ f p q, x = .func f p q) ∨ (k = 3 ∧ ∃ t u, x = .iface t u))
    (hy : (k = 0 ∧ y = .pointer none) ∨ (k = 1 ∧ y = .slice none 0 0) ∨ (k = 2 ∧ y = .nilFunc) ∨ (k = 3 ∧ y = .nilIface)) :
    (Op.equal t x y).run P w = .ok false w ∧ (Op.equal t y x).run P w = .ok false w := by
  obtain ⟨n, hd⟩ : ∃ n, Op.maxDepth = n + 1 := ⟨9999, rfl⟩
  unfold Op.equal
  rw [hd]
  rcases typeKind_sound ht with ⟨rfl, e, hu⟩ | ⟨rfl, e, hu⟩ | ⟨rfl, p, r, v, hu⟩ | ⟨rfl, m, hu⟩
  all_goals
    rcases hx with ⟨h1, hx⟩ | ⟨h1, hx⟩ | ⟨h1, hx⟩ | ⟨h1, hx⟩ <;> (first | omega | skip)
    rcases hy with ⟨h2, hy⟩ | ⟨h2, hy⟩ | ⟨h2, hy⟩ | ⟨h2, hy⟩ <;> (first | omega | skip)
  · obtain ⟨a, rfl⟩ := hx; subst hy
    constructor <;> simp only [Op.equalIn, Sem.run_bind, run_underlying hu, Result.andThen_ok, Sem.run_pure] <;> rfl
  · obtain ⟨a, _, c, rfl⟩ := hx; subst hy
    constructor <;> simp only [Op.equalIn, Sem.run_bind, run_underlying hu, Result.andThen_ok, Sem.run_pure] <;> rfl
  · obtain ⟨f, p, q, rfl⟩ := hx; subst hy
    constructor <;> simp only [Op.equalIn, Sem.run_bind, run_underlying hu, Result.andThen_ok, Sem.run_pure]
  · obtain ⟨t, u, rfl⟩ := hx; subst hy
    constructor <;> simp only [Op.equalIn, Sem.run_bind, run_underlying hu, Result.andThen_ok, Sem.run_pure]

theorem binOp_nil {t : TypeId} {x y : Value} {k : Nat}
    (hx : (k = 0 ∧ ∃ a, x = .pointer (some a)) ∨ (k = 1 ∧ ∃ a n c, x = .slice (some a) n c) ∨ (k = 2 ∧ ∃ f p q, x = .func f p q) ∨ (k = 3 ∧ ∃ t u, x = .iface t u))
    (hy : (k = 0 ∧ y = .pointer none) ∨ (k = 1 ∧ y = .slice none 0 0) ∨ (k = 2 ∧ y = .nilFunc) ∨ (k = 3 ∧ y = .nilIface)) :
    (binOp .eql t x y = (do pure (.bool (← Op.equal t x y))) ∧ binOp .neq t x y = (do pure (.bool (!(← Op.equal t x y))))) ∧
    (binOp .eql t y x = (do pure (.bool (← Op.equal t y x))) ∧ binOp .neq t y x = (do pure (.bool (!(← Op.equal t y x))))) := by
  rcases hx with ⟨h1, a, rfl⟩ | ⟨h1, a, n, c, rfl⟩ | ⟨h1, f, p, q, rfl⟩ | ⟨h1, t, u, rfl⟩ <;>
  rcases hy with ⟨h2, rfl⟩ | ⟨h2, rfl⟩ | ⟨h2, rfl⟩ | ⟨h2, rfl⟩ <;> exact ⟨⟨rfl, rfl⟩, ⟨rfl, rfl⟩⟩

end Go.Tel
