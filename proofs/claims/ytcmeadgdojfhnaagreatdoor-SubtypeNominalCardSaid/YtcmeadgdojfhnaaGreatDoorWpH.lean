/-
  A loop over an iterator's values: what a round needs, and the whole loop.
-/
import Derived.Test.YtcmeadgdojfhnaaGreatDoorWvF
set_option linter.unusedSimpArgs false
set_option linter.unusedVariables false
namespace Go.Tel
theorem wAnyT_max {E : Env} {L : Lim} {s : Sto} {lk : Lk} {o : Oper} {K : AV → Sto → Prop} {x y : Operand} {m n : Int} {t : Array TypeId} (ho : o.op = .call { callee := .builtin .max, args := #[x, y], argTypes := t })
    (hx : evL lk x = some (I64 m)) (hy : evL lk y = some (I64 n)) (h : K (I64 (max m n)) s) : wAnyT E L s lk o K := by
  refine ⟨I64 (max m n), s, fun ρ hA => ?_, h⟩
  have ex := evL_eq hA hx
  have ey := evL_eq hA hy
  unfold opA
  rw [ho]
  have h1 : allConc ρ o.op.operands.toList = true := by
    have e : o.op.operands.toList = [x, y] := by rw [ho]; rfl
    grind[allConc,conc]
  have h2 : quickOp E ρ o = some (I64 (max m n)) := by
    simp only [quickOp, h1, if_true]
    unfold execOp
    rw [ho]
    simp [resolve, invoke, builtin, Builtin.max_, Builtin.max2, ex, ey, conc]
    have e : max m n = if m < n then n else m := by omega
    rw [e]
    rfl
  grind
theorem rowsBy_flatten {k : Nat} : ∀ (m : List (List PV)), (∀ r ∈ m, r.length = k) → rowsBy k m.length m.flatten = m
  | [], _ => rfl
  | r :: m, h => by
    have hr := h r (by simp)
    have e1 : (r ++ m.flatten).take k = r := by grind
    have e2 : (r ++ m.flatten).drop k = m.flatten := by grind
    simp [rowsBy, e1, e2, rowsBy_flatten m (fun x hx => h x (by grind))]
theorem flatten_len {k : Nat} : ∀ (m : List (List PV)), (∀ r ∈ m, r.length = k) → m.flatten.length = m.length * k
  | [], _ => by simp
  | r :: m, h => by
    simp only [List.flatten_cons, List.length_append, List.length_cons, h r (by simp), flatten_len m (fun x hx => h x (by grind)), Nat.succ_mul]
    omega
theorem wApp_rows {L : Lim} {bs : List (List AV)} {ts x : List (Nat × TypeId)} {e : TypeId} {k bytes : Nat} {a y : AV} {rows m : List (List PV)} {K : AV → Sto → Prop} (ha : Apd ts.length (ts ++ x) e a rows) (hrt : L.rt ≤ ts.length) (hrows : ∀ r ∈ rows, r.length = k) (hm : ∀ r ∈ m, r.length = k) (hk : 0 < k)
    (hy : srcCells ⟨bs, ts ++ x⟩ k y = some (m.flatten.map .pv)) (hok : (m.flatten.map AV.pv).all okCell = true) (hb : (rows.length + m.length) * bytes ≤ 2 ^ 45) (hb2 : rows.length + m.length ≤ 2 ^ 45)
    (h : ∀ a' x', Apd ts.length (ts ++ x') e a' (rows ++ m) → K a' ⟨bs, ts ++ x'⟩) : wApp false L ⟨bs, ts ++ x⟩ e k bytes a y K := by
  have hall : (rows.all fun r => r.length == k) = true := by grind
  unfold wApp
  rw [hy]
  have hfl := flatten_len m hm
  have hby := rowsBy_flatten m hm
  cases hc : m.flatten with
  | nil =>
    have hm0 : m = [] := by
      cases m with
      | nil => rfl
      | cons r m =>
        grind
    subst hm0
    have := h a x (by grind)
    rcases ha with rfl | ⟨t, rfl, h1, h2⟩ <;> assumption
  | cons c cs =>
    have hmap : m.flatten.map AV.pv = .pv c :: cs.map .pv := by grind
    have hl : (AV.pv c :: cs.map .pv).length / k = m.length := by
      rw [← hmap, List.length_map, hfl, Nat.mul_div_cancel _ hk]
    have htp : toPVs (AV.pv c :: cs.map .pv) = some m.flatten := by grind[toPVs_map]
    rw [hmap] at hok
    simp only [wO, List.map_cons, hok, hl, htp, hby]
    refine ⟨trivial, ?_⟩
    rcases ha with rfl | ⟨t, rfl, h1, h2⟩
    · refine ⟨⟨hb, hb2, hall⟩, ?_⟩
      have := h (.own (ts ++ x).length (rows ++ m)) (x ++ [(rows.length + m.length, e)]) (.inr ⟨_, rfl, by simp, by simp⟩)
      grind
    · refine ⟨⟨hb, hb2, h1, by omega, hall⟩, ?_⟩
      have hlt : t < (ts ++ x).length := (List.getElem?_eq_some_iff.1 h1).1
      have es : (ts ++ x).set t (rows.length + m.length, e) = ts ++ x.set (t - ts.length) (rows.length + m.length, e) := List.set_append_right _ _ h2
      have := h (.own t (rows ++ m)) (x.set (t - ts.length) (rows.length + m.length, e)) (.inr ⟨_, rfl, by grind, h2⟩)
      grind
theorem srcCells_rows {s : Sto} {k : Nat} {y : AV} {m : List (List PV)} (hy : RowsO y m) (hm : ∀ r ∈ m, r.length = k) : srcCells s k y = some (m.flatten.map .pv) := by
  have hall : (m.all fun r => r.length == k) = true := by grind
  rcases hy with (rfl | rfl) | ⟨t, rfl⟩ <;> grind[srcCells,rowsOf]
theorem intRows_row {l : List Int} : ∀ r ∈ intRows l, r.length = 1 := by
  intro r hr
  obtain ⟨n, _, rfl⟩ := List.mem_map.1 hr
  rfl
theorem intRows_ok {l : List Int} : ((intRows l).flatten.map AV.pv).all okCell = true := by grind[intRows,okCell]
end Go.Tel
