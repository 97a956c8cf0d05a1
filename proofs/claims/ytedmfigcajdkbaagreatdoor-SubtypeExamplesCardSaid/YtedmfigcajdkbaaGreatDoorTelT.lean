/-
  A region with a drawn order: what the plan gives, in whatever order the operations come.
-/
import Derived.Test.YtedmfigcajdkbaaGreatDoorTelS
namespace Go.Tel

structure Reg (E : Env) (L : Lim) (cf : CallF) (ops : Array Oper) (p : Plan) (K N : Nat) (ρ0 ρf : Nat → AV) (σ : Nat → Sto) : Prop where
  edge : ∀ (i : Nat) o e, ops[i]? = some o → e ∈ o.after → Region.binds .any e = true → e.on < i
  pre : ∀ (i : Nat) o j, ops[i]? = some o → j ∈ preOf p i → ∃ e, e ∈ o.after ∧ Region.binds .any e = true ∧ (e.on = j ∨ j ∈ preOf p e.on)
  cls : ∀ (i : Nat) o, ops[i]? = some o → ∃ c, p.cls[i]? = some c
  dst : ∀ (i j : Nat) oi oj d, ops[i]? = some oi → ops[j]? = some oj → oi.dst = some d → oj.dst = some d → i = j
  read : ∀ (i j : Nat) oi oj d, ops[i]? = some oi → ops[j]? = some oj → oj.dst = some d → d ∈ guardRead ops oi ++ opReads oi →
    (has (warOf p.war i) d = true ∧ (j = i ∨ i ∈ preOf p j)) ∨ (has (warOf p.war i) d = false ∧ j ∈ preOf p i)
  rk : ∀ (i j : Nat) oi oj r r', ops[i]? = some oi → ops[j]? = some oj → rank p i = some r → rank p j = some r' → r < r' → i ∈ preOf p j
  rkInj : ∀ (i j : Nat) oi oj r, ops[i]? = some oi → ops[j]? = some oj → rank p i = some r → rank p j = some r → i = j
  rkEx : ∀ k, k < K → ∃ (i : Nat) (o : Oper), ops[i]? = some o ∧ rank p i = some k
  rkLt : ∀ (i : Nat) o r, ops[i]? = some o → rank p i = some r → r < K
  time : ∀ (i : Nat) o ts, ops[i]? = some o → (p.cls[i]? = some (.q ts) ∨ p.cls[i]? = some (.h ts)) → ∀ k, k ≤ K → k ∉ ts →
    ∃ (j : Nat) (oj : Oper) (r : Nat), ops[j]? = some oj ∧ rank p j = some r ∧ ((j ∈ preOf p i ∧ k ≤ r) ∨ (i ∈ preOf p j ∧ r < k))
  fuse : ∀ (i : Nat) o r (j x : Nat), ops[i]? = some o → p.cls[i]? = some (.fa r j x) → ∃ o1 o2 k, ops[j]? = some o1 ∧ ops[x]? = some o2 ∧ p.cls[j]? = some .fj ∧ p.cls[x]? = some .fx ∧ fused o o1 o2 = some k ∧
    warOf p.war i = [] ∧ warOf p.war j = [] ∧ warOf p.war x = [] ∧ i ∈ preOf p j ∧ j ∈ preOf p x ∧ i ∈ preOf p x ∧
    ∃ v, fuseA E L ρf (σ r) k = some (v, σ (r + 1)) ∧ ρf k.d = v ∧ ρf k.p = .junk
  win : ∀ (i : Nat) o r (j x : Nat), ops[i]? = some o → p.cls[i]? = some (.fa r j x) → ∀ (m : Nat) om, ops[m]? = some om → m ≠ i → m ≠ j → m ≠ x →
    (m ∈ preOf p i ∨ x ∈ preOf p m ∨ safeOp ops p m = true) ∧ ∀ d, om.dst = some d → (d ∈ readsAt ops j ∨ d ∈ readsAt ops x) → m ∈ preOf p i
  fjEx : ∀ (j : Nat) oj, ops[j]? = some oj → p.cls[j]? = some .fj → ∃ (i : Nat) (o : Oper) (r x : Nat), ops[i]? = some o ∧ p.cls[i]? = some (.fa r j x)
  fxEx : ∀ (x : Nat) ox, ops[x]? = some ox → p.cls[x]? = some .fx → ∃ (i : Nat) (o : Oper) (r j : Nat), ops[i]? = some o ∧ p.cls[i]? = some (.fa r j x)
  out : ∀ t, (∀ (i : Nat) o, ops[i]? = some o → o.dst ≠ some t) → ρf t = ρ0 t
  dstN : ∀ (i : Nat) o d, ops[i]? = some o → o.dst = some d → d < N
  wF : ∀ (i : Nat) o r, ops[i]? = some o → p.cls[i]? = some (.w r) → ∃ v, actG E L cf ops (envAt p.war ρ0 ρf i) (σ r) o = some (v, σ (r + 1)) ∧ ∀ d, o.dst = some d → ρf d = v
  qF : ∀ (i : Nat) o ts k, ops[i]? = some o → p.cls[i]? = some (.q ts) → k ∈ ts → ∃ v, quietG E L ops (envAt p.war ρ0 ρf i) (σ k) o = some v ∧ ∀ d, o.dst = some d → ρf d = v
  hF : ∀ (i : Nat) o ts, ops[i]? = some o → p.cls[i]? = some (.h ts) → o.guard = none ∧ ∃ d cs mk id, o.dst = some d ∧ hcells E (envAt p.war ρ0 ρf i) o = some (cs, mk) ∧ ρf d = mk id ∧ ∀ k ∈ ts, (σ k).bs[id]? = some cs
  hInj : ∀ (i j : Nat) oi oj ts us d e id, ops[i]? = some oi → ops[j]? = some oj → p.cls[i]? = some (.h ts) → p.cls[j]? = some (.h us) → oi.dst = some d → oj.dst = some e → idOf (ρf d) = some id → idOf (ρf e) = some id → i = j

section
variable {E : Env} {L : Lim} {cf : CallF} {ops : Array Oper} {p : Plan} {K N : Nat} {ρ0 ρf : Nat → AV} {σ : Nat → Sto}

theorem Reg.pre_lt (R : Reg E L cf ops p K N ρ0 ρf σ) : ∀ i o j, ops[i]? = some o → j ∈ preOf p i → j < i := by
  intro i
  induction i using Nat.strongRecOn with
  | ind i ih =>
    intro o j ho hj
    obtain ⟨e, he, hb, h⟩ := R.pre i o j ho hj
    have hlt := R.edge i o e ho he hb
    rcases h with rfl | h
    · exact hlt
    · obtain ⟨oe, hoe⟩ : ∃ oe, ops[e.on]? = some oe := ⟨ops[e.on]'(by have := lt_of_getElem? ho; omega), by simp⟩
      have := ih e.on hlt oe j hoe h
      omega

def Down (ops : Array Oper) (D : Nat → Prop) : Prop := ∀ (i : Nat) o e, ops[i]? = some o → D i → e ∈ o.after → Region.binds .any e = true → D e.on

theorem Reg.pre_in (R : Reg E L cf ops p K N ρ0 ρf σ) {D : Nat → Prop} (hD : Down ops D) : ∀ i o j, ops[i]? = some o → (∀ e ∈ o.after, Region.binds .any e = true → D e.on) → j ∈ preOf p i → D j := by
  intro i
  induction i using Nat.strongRecOn with
  | ind i ih =>
    intro o j ho hr hj
    obtain ⟨e, he, hb, h⟩ := R.pre i o j ho hj
    have hlt := R.edge i o e ho he hb
    have hde := hr e he hb
    rcases h with rfl | h
    · exact hde
    · obtain ⟨oe, hoe⟩ : ∃ oe, ops[e.on]? = some oe := ⟨ops[e.on]'(by have := lt_of_getElem? ho; omega), by simp⟩
      exact ih e.on hlt oe j hoe (fun e' he' hb' => hD e.on oe e' hoe hde he' hb') h

theorem Reg.pre_of (R : Reg E L cf ops p K N ρ0 ρf σ) {D : Nat → Prop} (hD : Down ops D) {i j : Nat} {o : Oper} (ho : ops[i]? = some o) (hi : D i) (hj : j ∈ preOf p i) : D j :=
  R.pre_in hD i o j ho (fun e he hb => hD i o e ho hi he hb) hj

open Classical in
/-- The temporaries once the operations of D are done. -/
noncomputable def rho (ops : Array Oper) (ρ0 ρf : Nat → AV) (D : Nat → Prop) (t : Nat) : AV := if ∃ (i : Nat) (o : Oper), ops[i]? = some o ∧ o.dst = some t ∧ D i then ρf t else ρ0 t

theorem rho_in {D : Nat → Prop} {t i : Nat} {o : Oper} (ho : ops[i]? = some o) (hd : o.dst = some t) (hi : D i) : rho ops ρ0 ρf D t = ρf t := if_pos ⟨i, o, ho, hd, hi⟩

theorem rho_out {D : Nat → Prop} {t : Nat} (h : ∀ (i : Nat) (o : Oper), ops[i]? = some o → o.dst = some t → ¬ D i) : rho ops ρ0 ρf D t = ρ0 t := if_neg (fun ⟨i, o, ho, hd, hi⟩ => h i o ho hd hi)

theorem Reg.rho_none (R : Reg E L cf ops p K N ρ0 ρf σ) {D : Nat → Prop} {t : Nat} (h : ∀ (i : Nat) (o : Oper), ops[i]? = some o → o.dst ≠ some t) : rho ops ρ0 ρf D t = ρf t := by
  rw [rho_out (fun i o ho hd => absurd hd (h i o ho)), R.out t h]

/-- What an operation that is ready reads. -/
theorem Reg.agree (R : Reg E L cf ops p K N ρ0 ρf σ) {D : Nat → Prop} (hD : Down ops D) {i : Nat} {o : Oper} (ho : ops[i]? = some o) (hn : ¬ D i) (hr : ∀ e ∈ o.after, Region.binds .any e = true → D e.on) :
    ∀ t ∈ guardRead ops o ++ opReads o, rho ops ρ0 ρf D t = envAt p.war ρ0 ρf i t := by
  intro t ht
  unfold envAt
  by_cases hw : ∃ (j : Nat) (oj : Oper), ops[j]? = some oj ∧ oj.dst = some t
  · obtain ⟨j, oj, hoj, hdj⟩ := hw
    rcases R.read i j o oj t ho hoj hdj ht with ⟨h1, h2⟩ | ⟨h1, h2⟩
    · rw [h1, cond_true]
      refine rho_out fun k ok hok hdk hDk => ?_
      have : k = j := R.dst k j ok oj t hok hoj hdk hdj
      subst this
      rcases h2 with rfl | h2
      · exact hn hDk
      · exact hn (R.pre_of hD hok hDk h2)
    · rw [h1, cond_false]
      exact rho_in hoj hdj (R.pre_in hD i o j ho hr h2)
  · have hno : ∀ (j : Nat) (oj : Oper), ops[j]? = some oj → oj.dst ≠ some t := fun j oj hoj hdj => hw ⟨j, oj, hoj, hdj⟩
    rw [R.rho_none hno]
    cases has (warOf p.war i) t with
    | true => rw [cond_true, R.out t hno]
    | false => rw [cond_false]

end
end Go.Tel
