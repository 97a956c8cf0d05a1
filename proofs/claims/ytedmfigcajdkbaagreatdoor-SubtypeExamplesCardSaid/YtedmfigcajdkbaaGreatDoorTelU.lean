/-
  A region with a drawn order: the state after any set of its operations, and one operation more.
-/
import Derived.Test.YtedmfigcajdkbaaGreatDoorTelT
namespace Go.Tel

/-- A row is appended and not yet written: w is the world, wv what it will be. -/
def Open (P : Program) (kf : Fuse) (Dj : Prop) (a : Act) (g : Ghost) (w wv : World) : Prop :=
  ∃ (b cap len : Nat) (vz : List Value) (e : TypeId) (xv : Value) (kk : IntKind) (elem : TypeId) (ti : TypeInfo),
    P.underlying kf.t = some (.slice elem) ∧ P.info? elem = some ti ∧ kf.te = elem ∧
    a.eval (.tmp kf.d) = .slice (some ⟨b, 0, none⟩) (len + 1) cap ∧ a.eval kf.ix = .int kk (len : Int) ∧ a.eval kf.v = xv ∧ xv.cells.size = ti.size ∧ (∀ u ∈ xv.cells.toList, u.oneCell' = true) ∧
    wv.heap[b]? = some (.cells ⟨setV vz (len * ti.size) xv.cells.toList⟩ e (0, 0)) ∧ w = putRowB wv b vz e ∧ len * ti.size + ti.size ≤ vz.length ∧ (∃ k l, g.tok k = some l ∧ l.b = b) ∧
    (Dj → a.eval (.tmp kf.p) = .pointer (some ⟨b, len * ti.size, none⟩))

def Shut (ops : Array Oper) (p : Plan) (D : Nat → Prop) (i : Nat) : Prop := ∀ (i' : Nat) o' r' (j' x' : Nat), ops[i']? = some o' → p.cls[i']? = some (.fa r' j' x') → D i' → i' ≠ i → D x'

def Window (P : Program) (ops : Array Oper) (p : Plan) (D : Nat → Prop) (a : Act) (g : Ghost) (w wv : World) : Prop :=
  (w = wv ∧ ∀ i, Shut ops p D i) ∨
  ∃ (i : Nat) (o : Oper) (r j x : Nat) (o1 o2 : Oper) (kf : Fuse), ops[i]? = some o ∧ p.cls[i]? = some (.fa r j x) ∧ ops[j]? = some o1 ∧ ops[x]? = some o2 ∧ fused o o1 o2 = some kf ∧ D i ∧ ¬ D x ∧
    Shut ops p D i ∧ Open P kf (D j) a g w wv

structure Core (E : Env) (L : Lim) (ops : Array Oper) (p : Plan) (K N : Nat) (ρ0 ρf : Nat → AV) (σ : Nat → Sto) (ds : List Deferred) (g0 : Ghost) (w0 : World) (D : Nat → Prop) (a : Act) (k : Nat) (g : Ghost) (wv : World) : Prop where
  kK : k ≤ K
  time : ∀ (i : Nat) o r, ops[i]? = some o → rank p i = some r → (D i ↔ r < k)
  size : a.tmps.size = N
  defers : a.defers = ds
  ext : Ext L g0 w0 g wv
  inv : Inv E g wv (σ k)
  tmps : ∀ t, V g wv (rho ops ρ0 ρf D t) (a.tmps.getD t undef)
  pend : ∀ (i : Nat) o ts d id, ops[i]? = some o → p.cls[i]? = some (.h ts) → o.dst = some d → idOf (ρf d) = some id → ¬ D i → g.pend id

def J (E : Env) (L : Lim) (ops : Array Oper) (p : Plan) (K N : Nat) (ρ0 ρf : Nat → AV) (σ : Nat → Sto) (ds : List Deferred) (g0 : Ghost) (w0 : World) (D : Nat → Prop) (a : Act) (w : World) : Prop :=
  ∃ k g wv, Core E L ops p K N ρ0 ρf σ ds g0 w0 D a k g wv ∧ Window E.P ops p D a g w wv

theorem put_size (a : Act) (d : Option Tmp) (v : Value) : (a.put d v).tmps.size = a.tmps.size := by cases d <;> simp [Act.put]
theorem put_defers (a : Act) (d : Option Tmp) (v : Value) : (a.put d v).defers = a.defers := by cases d <;> simp [Act.put]
theorem put_same {a : Act} {d : Nat} {v : Value} (h : d < a.tmps.size) : (a.put (some d) v).tmps.getD d undef = v := by simp [Act.put, h]
theorem put_other {a : Act} {d : Option Tmp} {v : Value} {t : Nat} (h : d ≠ some t) : (a.put d v).tmps.getD t undef = a.tmps.getD t undef := by
  cases d with
  | none => rfl
  | some d =>
    have hne : d ≠ t := fun e => h (by rw [e])
    simp [Act.put, Array.getElem?_setIfInBounds_ne hne]

section
variable {E : Env} {L : Lim} {cf : CallF} {ops : Array Oper} {p : Plan} {K N : Nat} {ρ0 ρf : Nat → AV} {σ : Nat → Sto} {ds : List Deferred} {g0 : Ghost} {w0 : World}

theorem Core.push (R : Reg E L cf ops p K N ρ0 ρf σ) {D : Nat → Prop} {a : Act} {k k' : Nat} {g g' : Ghost} {wv wv' : World} (h : Core E L ops p K N ρ0 ρf σ ds g0 w0 D a k g wv) {m : Nat} {om : Oper} (hm : ops[m]? = some om)
    (hk : (rank p m = none ∧ k' = k) ∨ (rank p m = some k ∧ k' = k + 1)) (hext : Ext L g0 w0 g' wv') (hmono : ∀ x u, V g wv x u → V g' wv' x u) (hinv : Inv E g' wv' (σ k')) {v' : Value}
    (hv : ∀ d, om.dst = some d → V g' wv' (ρf d) v')
    (hpend : ∀ (i : Nat) o ts d id, ops[i]? = some o → p.cls[i]? = some (.h ts) → o.dst = some d → idOf (ρf d) = some id → ¬ D i → i ≠ m → g'.pend id) :
    Core E L ops p K N ρ0 ρf σ ds g0 w0 (fun i => D i ∨ i = m) (a.put om.dst v') k' g' wv' where
  kK := by
    rcases hk with ⟨_, rfl⟩ | ⟨h1, rfl⟩
    · exact h.kK
    · exact R.rkLt m om k hm h1
  time := fun i o r ho hr => by
    have ht := h.time i o r ho hr
    rcases hk with ⟨h1, rfl⟩ | ⟨h1, rfl⟩
    · have : i ≠ m := fun e => by subst e; rw [hr] at h1; simp at h1
      simp [this, ht]
    · by_cases hi : i = m
      · subst hi
        rw [hr] at h1
        simp at h1
        simp [h1]
      · have : r ≠ k := fun e => hi (R.rkInj i m o om r ho hm hr (e ▸ h1))
        simp only [hi, or_false, ht]
        omega
  size := by rw [put_size]; exact h.size
  defers := by rw [put_defers]; exact h.defers
  ext := hext
  inv := hinv
  tmps := fun t => by
    by_cases ht : om.dst = some t
    · rw [rho_in hm ht (.inr rfl), ht, put_same (by rw [h.size]; exact R.dstN m om t hm ht)]
      exact hv t ht
    · rw [put_other ht]
      have : rho ops ρ0 ρf (fun i => D i ∨ i = m) t = rho ops ρ0 ρf D t := by
        by_cases hx : ∃ (i : Nat) (o : Oper), ops[i]? = some o ∧ o.dst = some t ∧ D i
        · obtain ⟨i, o, ho, hd, hi⟩ := hx
          rw [rho_in ho hd hi, rho_in ho hd (.inl hi)]
        · rw [rho_out (D := D) fun i o ho hd hi => hx ⟨i, o, ho, hd, hi⟩, rho_out]
          intro i o ho hd hi
          rcases hi with hi | rfl
          · exact hx ⟨i, o, ho, hd, hi⟩
          · rw [hm] at ho; simp at ho; subst ho; exact ht hd
      rw [this]
      exact hmono _ _ (h.tmps t)
  pend := fun i o ts d id ho hc hd hid hn => hpend i o ts d id ho hc hd hid (fun x => hn (.inl x)) (fun x => hn (.inr x))

/-- The time at which a writer comes. -/
theorem Core.now (R : Reg E L cf ops p K N ρ0 ρf σ) {D : Nat → Prop} {a : Act} {k : Nat} {g : Ghost} {wv : World} (h : Core E L ops p K N ρ0 ρf σ ds g0 w0 D a k g wv) (hD : Down ops D) {m r : Nat} {om : Oper} (hm : ops[m]? = some om) (hn : ¬ D m)
    (hr : ∀ e ∈ om.after, Region.binds .any e = true → D e.on) (hrk : rank p m = some r) : r = k := by
  have h1 : k ≤ r := by
    rcases Nat.lt_or_ge r k with x | x
    · exact absurd ((h.time m om r hm hrk).2 x) hn
    · exact x
  rcases Nat.lt_or_ge k r with x | x
  · obtain ⟨i, o, ho, hi⟩ := R.rkEx k (by have := R.rkLt m om r hm hrk; omega)
    have := (h.time i o k ho hi).1 (R.pre_in hD m om i hm hr (R.rk i m o om k r ho hm hi hrk x))
    omega
  · omega

theorem Core.tried (R : Reg E L cf ops p K N ρ0 ρf σ) {D : Nat → Prop} {a : Act} {k : Nat} {g : Ghost} {wv : World} (h : Core E L ops p K N ρ0 ρf σ ds g0 w0 D a k g wv) (hD : Down ops D) {m : Nat} {om : Oper} {ts : List Nat} (hm : ops[m]? = some om) (hn : ¬ D m)
    (hr : ∀ e ∈ om.after, Region.binds .any e = true → D e.on) (hc : p.cls[m]? = some (.q ts) ∨ p.cls[m]? = some (.h ts)) : k ∈ ts := by
  rcases Classical.em (k ∈ ts) with x | x
  · exact x
  · obtain ⟨j, oj, r, hoj, hrk, h1 | h1⟩ := R.time m om ts hm hc k h.kK x
    · have := (h.time j oj r hoj hrk).1 (R.pre_in hD m om j hm hr h1.1)
      omega
    · exact absurd (R.pre_of hD hoj ((h.time j oj r hoj hrk).2 h1.2) h1.1) hn

theorem Shut.more {D : Nat → Prop} {m i : Nat} {om : Oper} (hm : ops[m]? = some om) (hnf : ∀ r j x, p.cls[m]? ≠ some (.fa r j x)) (h : Shut ops p D i) : Shut ops p (fun i => D i ∨ i = m) i := by
  intro i' o' r' j' x' ho hc hi hne
  rcases hi with hi | rfl
  · exact .inl (h i' o' r' j' x' ho hc hi hne)
  · exact absurd hc (hnf _ _ _)

end
end Go.Tel
