/-
  A loop over an iterator's values: what a round needs, and the whole loop.
-/
import Derived.Test.YtmipbilokjkjiaaGreatDoorWvF
set_option linter.unusedSimpArgs false
set_option linter.unusedVariables false
namespace Go.Tel
noncomputable abbrev wpo (E : Env) (L : Lim) (N : Nat) (c : Code) : En → Sto → (Out → En → Sto → Prop) → Prop :=
  Code.rec (motive := fun _ => En → Sto → (Out → En → Sto → Prop) → Prop)
    (fun env s K => K .norm env s)
    (fun id ops d env s K => match d with
      | false => wOps E L N ops ops.toList env s fun env s => K .norm env s
      | true => wO (L.pl id) fun p => wReg E L N p ops env s fun env s => K .norm env s)
    (fun _ _ iha ihb env s K => iha env s fun o env s => match o with
      | .norm => ihb env s K
      | o => K o env s)
    (fun c _ _ iha ihb env s K => wO (evL (lkE env) c) fun c => wCond c (iha env s K) (ihb env s K))
    (fun id _ ih env s K => ih env s fun o env s => match o with
      | .exit j => match Nat.beq j id with
        | true => K .norm env s
        | false => K (.exit j) env s
      | o => K o env s)
    (fun _ _ _ _ _ => False)
    (fun _ _ _ _ _ _ _ _ _ => False)
    (fun j env s K => K (.exit j) env s)
    (fun _ _ _ _ _ => False)
    (fun _ _ _ _ => False)
    (fun _ _ _ _ => False)
    (fun env s K => K .ret env s)
    (fun _ _ _ _ => False) c
theorem wpo_sound {E : Env} {L : Lim} {N : Nat} : ∀ (c : Code) (env : En) (s : Sto) (K : Out → En → Sto → Prop), wpo E L N c env s K → ∀ ρ, Agr (lkE env) ρ →
    ∃ o env' ρ' s', CodeE E L c ⟨N, ρ, s⟩ o ⟨N, ρ', s'⟩ ∧ Agr (lkE env') ρ' ∧ K o env' s' := by
  intro c
  induction c with
  | skip => exact fun env s K h ρ hA => ⟨.norm, env, ρ, s, CodeE.simple fun _ _ => rfl, hA, h⟩
  | ret => exact fun env s K h ρ hA => ⟨.ret, env, ρ, s, CodeE.simple fun _ _ => rfl, hA, h⟩
  | exit j => exact fun env s K h ρ hA => ⟨.exit j, env, ρ, s, CodeE.simple fun _ _ => rfl, hA, h⟩
  | region id ops d =>
    intro env s K h ρ hA
    cases d with
    | false =>
      obtain ⟨env', ρ', s', h1, h2, h3⟩ := wp_region (id := id) (K := fun env s => K .norm env s) h ρ hA
      exact ⟨.norm, env', ρ', s', h1, h2, h3⟩
    | true =>
      obtain ⟨env', ρ', s', h1, h2, h3⟩ := wp_draws (K := fun env s => K .norm env s) h ρ hA
      exact ⟨.norm, env', ρ', s', h1, h2, h3⟩
  | seq a b iha ihb =>
    intro env s K h ρ hA
    obtain ⟨o, env1, ρ1, s1, h1, h2, h3⟩ := iha env s _ h ρ hA
    cases o with
    | norm =>
      obtain ⟨o, env2, ρ2, s2, h4, h5, h6⟩ := ihb env1 s1 K h3 ρ1 h2
      exact ⟨o, env2, ρ2, s2, h1.seq h4, h5, h6⟩
    | exit j => exact ⟨_, env1, ρ1, s1, h1.seqO (by simp), h2, h3⟩
    | ret => exact ⟨_, env1, ρ1, s1, h1.seqO (by simp), h2, h3⟩
  | cond c a b iha ihb =>
    intro env s K h ρ hA
    obtain ⟨cv, h1, h⟩ := wO_inv h
    unfold wCond at h
    split at h
    · rename_i t
      cases t with
      | true =>
        obtain ⟨o, env1, ρ1, s1, h3, h4⟩ := iha _ _ _ (h.1 rfl) ρ hA
        exact ⟨o, env1, ρ1, s1, CodeE.cond (evL_eq hA h1) h3, h4⟩
      | false =>
        obtain ⟨o, env1, ρ1, s1, h3, h4⟩ := ihb _ _ _ (h.2 rfl) ρ hA
        exact ⟨o, env1, ρ1, s1, CodeE.cond (evL_eq hA h1) h3, h4⟩
    simp_all
  | block id b ih =>
    intro env s K h ρ hA
    obtain ⟨o, env1, ρ1, s1, h1, h2, h3⟩ := ih env s _ h ρ hA
    cases o with
    | norm => exact ⟨_, env1, ρ1, s1, h1.block, h2, h3⟩
    | ret => exact ⟨_, env1, ρ1, s1, h1.block, h2, h3⟩
    | exit j =>
      have h1 := h1.block (id := id)
      simp only [outB] at h1
      cases hb : Nat.beq j id with
      | true => rw [hb] at h1; simp only [hb] at h3; exact ⟨_, env1, ρ1, s1, h1, h2, h3⟩
      | false => rw [hb] at h1; simp only [hb] at h3; exact ⟨_, env1, ρ1, s1, h1, h2, h3⟩
  | _ => simp
theorem CodeE.both {E : Env} {L : Lim} {a b : Code} {st st1 st2 st3 : St} {o o' : Out} (h1 : CodeE E L a st o st1) (h2 : CodeE E L b st2 o' st3) :
    ∃ n, ∀ m k, n ≤ m → n ≤ k → evW E (callN E m) k L a st = some (o, st1) ∧ evW E (callN E m) k L b st2 = some (o', st3) := by
  obtain ⟨n1, h1⟩ := h1
  obtain ⟨n2, h2⟩ := h2
  exact ⟨max n1 n2, fun m k hm hk => ⟨h1 m k (by omega) (by omega), h2 m k (by omega) (by omega)⟩⟩
theorem wp_range {E : Env} {L : Lim} {N : Nat} {rs : List ResultVar} {QR : AV → Sto → Prop} {g : Operand} {ps : Array Tmp} {ca cb : Code} {ks : List Frame} {env : En} {s : Sto} {k id p q : Nat} {el : TypeId} {c : AV} {rest : List AV}
    {rows : List (List PV)} (hg : evL (lkE env) g = some (.func (.func k) [] [.ptr id 0])) (hps : ps.toList = [p, q]) (hk : E.back k = some el) (hb : s.bs[id]? = some (c :: rest)) (hr : rowsOf c = some rows)
    (hc : (Nat.ble L.ro id && (noRF ca && (noRF cb && (Nat.blt p N && (Nat.blt q N && (!Nat.beq p q && (Nat.ble rows.length 1000000000000000000 && (sizeA E.P el).isSome))))))) = true)
    (I : Nat → Sto → Prop) (h0 : I rows.length { s with bs := s.bs.set id [] })
    (hstep : ∀ j s row, rows[j]? = some row → I (j + 1) s → ∃ v, elemA E.P el row = some v ∧ wpo E L N ca ((q, v) :: (p, I64 j) :: env) s fun o env1 s => o = .norm ∧ wpo E L N cb env1 s fun o _ s' => match o with
      | .norm => I j s'
      | .ret => wRes E (lkE env) s' rs fun vs => QR (packA vs) s'
      | .exit _ => False)
    (hend : ∀ s', I 0 s' → Wp E L N rs .skip ks env s' QR) : Wp E L N rs (.rangeFunc g ps ca cb) ks env s QR := by
  intro ρ hA
  have hgv := evL_eq hA hg
  have rounds : ∀ j s, j ≤ rows.length → I j s → ∃ o s' n, (∀ m k, n ≤ m → n ≤ k → roundsA (roundA E.P (evW E (callN E m) k L) ca cb ⟨N, ρ, s⟩ p q el) rows j s = some (o, s')) ∧
      ((o = .norm ∧ I 0 s') ∨ (o = .ret ∧ wRes E (lkE env) s' rs fun vs => QR (packA vs) s')) := by
    intro j
    induction j with
    | zero => exact fun s _ h => ⟨.norm, s, 0, fun m k _ _ => rfl, .inl ⟨rfl, h⟩⟩
    | succ j ih =>
      intro s hj h
      obtain ⟨row, hrow⟩ : ∃ row, rows[j]? = some row := ⟨_, aLs0008 (by omega)⟩
      obtain ⟨v, hv, hw⟩ := hstep j s row hrow h
      obtain ⟨o1, env1, ρ1, s1, c1, a1, rfl, hw⟩ := wpo_sound _ _ _ _ hw (upd (upd ρ p (I64 j)) q v) ((hA.put p _).put q v)
      obtain ⟨o2, env2, ρ2, s2, c2, a2, hw⟩ := wpo_sound _ _ _ _ hw ρ1 a1
      obtain ⟨n0, hn⟩ := c1.both c2
      have one : ∀ m k, n0 ≤ m → n0 ≤ k → roundA E.P (evW E (callN E m) k L) ca cb ⟨N, ρ, s⟩ p q el j row s = some (o2, s2) := by simp_all[roundA]
      have swap : ∀ m k j s0 s', roundsA (roundA E.P (evW E (callN E m) k L) ca cb ⟨N, ρ, s'⟩ p q el) rows j s0 = roundsA (roundA E.P (evW E (callN E m) k L) ca cb ⟨N, ρ, s⟩ p q el) rows j s0 := fun _ _ _ _ _ => rfl
      cases o2 with
      | norm =>
        obtain ⟨o, s', n1, h1, h2⟩ := ih s2 (by omega) hw
        refine ⟨o, s', max n0 n1, fun m k hm hk => ?_, h2⟩
        simp only [roundsA, hrow, one m k (by omega) (by omega)]
        exact h1 m k (by omega) (by omega)
      | ret =>
        refine ⟨.ret, s2, n0, fun m k hm hk => ?_, .inr ⟨rfl, hw⟩⟩
        simp[*,roundsA]
      | exit i => simp_all
  obtain ⟨o, s', n, h1, h2⟩ := rounds rows.length _ (aLs0005 _) h0
  have ce : CodeE E L (.rangeFunc g ps ca cb) ⟨N, ρ, s⟩ o ⟨N, ρ, s'⟩ := by
    refine ⟨n + 1, fun m z hm hz => ?_⟩
    obtain ⟨z, rfl⟩ : ∃ z', z = z' + 1 := ⟨z - 1, by omega⟩
    have := h1 m z (by omega) (by omega)
    simp only [evW, hgv, hps, hk, hb, hr, hc, aLs0004]
    have e : roundsA (roundA E.P (evW E (callN E m) z L) ca cb ⟨N, ρ, s⟩ p q el) rows rows.length { s with bs := s.bs.set id [] } = some (o, s') := this
    rw [e]
  rcases h2 with ⟨rfl, h2⟩ | ⟨rfl, h2⟩
  · obtain ⟨o, st, h3, h4⟩ := hend s' h2 ρ hA
    have hskip : o = .norm ∧ st = ⟨N, ρ, s'⟩ := by
      obtain ⟨n, hn⟩ := h3
      have := hn (n + 1) (n + 1) (by omega) (by omega)
      simp_all[evW]
    obtain ⟨rfl, rfl⟩ := hskip
    exact ⟨_, _, ce, h4⟩
  · exact ⟨_, _, ce, Unw.ret (fin_of hA h2 (fun _ => by simp)) ks⟩
theorem wAnyT_max {E : Env} {L : Lim} {s : Sto} {lk : Lk} {o : Oper} {K : AV → Sto → Prop} {x y : Operand} {m n : Int} {t : Array TypeId} (ho : o.op = .call { callee := .builtin .max, args := #[x, y], argTypes := t })
    (hx : evL lk x = some (I64 m)) (hy : evL lk y = some (I64 n)) (h : K (I64 (max m n)) s) : wAnyT E L s lk o K := by
  refine ⟨I64 (max m n), s, fun ρ hA => ?_, h⟩
  have ex := evL_eq hA hx
  have ey := evL_eq hA hy
  unfold opA
  rw [ho]
  have h1 : allConc ρ o.op.operands.toList = true := by
    have e : o.op.operands.toList = [x, y] := by rw [ho]; rfl
    grind[allConc,conc]
  have h2 : quickOp E ρ o = some (I64 (max m n)) := by
    simp only [quickOp, h1, aLs0045]
    unfold execOp
    rw [ho]
    simp [resolve, invoke, builtin, Builtin.max_, Builtin.max2, ex, ey, conc]
    have e : max m n = if m < n then n else m := by omega
    rw [e]
    rfl
  grind
theorem rowsBy_flatten {k : Nat} : ∀ (m : List (List PV)), (∀ r ∈ m, r.length = k) → rowsBy k m.length m.flatten = m
  | [], _ => rfl
  | r :: m, h => by
    have hr := h r (by simp)
    have e1 : (r ++ m.flatten).take k = r := by grind
    have e2 : (r ++ m.flatten).drop k = m.flatten := by grind
    simp [rowsBy, e1, e2, rowsBy_flatten m (fun x hx => h x (by grind))]
theorem flatten_len {k : Nat} : ∀ (m : List (List PV)), (∀ r ∈ m, r.length = k) → m.flatten.length = m.length * k
  | [], _ => by simp
  | r :: m, h => by
    simp only [List.flatten_cons, aLs0011, aLs0010, h r (by simp), flatten_len m (fun x hx => h x (by grind)), Nat.succ_mul]
    omega
theorem wApp_rows {L : Lim} {bs : List (List AV)} {ts x : List (Nat × TypeId)} {e : TypeId} {k bytes : Nat} {a y : AV} {rows m : List (List PV)} {K : AV → Sto → Prop} (ha : Apd ts.length (ts ++ x) e a rows) (hrt : L.rt ≤ ts.length) (hrows : ∀ r ∈ rows, r.length = k) (hm : ∀ r ∈ m, r.length = k) (hk : 0 < k)
    (hy : srcCells ⟨bs, ts ++ x⟩ k y = some (m.flatten.map .pv)) (hok : (m.flatten.map AV.pv).all okCell = true) (hb : (rows.length + m.length) * bytes ≤ 2 ^ 45) (hb2 : rows.length + m.length ≤ 2 ^ 45)
    (h : ∀ a' x', Apd ts.length (ts ++ x') e a' (rows ++ m) → K a' ⟨bs, ts ++ x'⟩) : wApp false L ⟨bs, ts ++ x⟩ e k bytes a y K := by
  have hall : (rows.all fun r => r.length == k) = true := by grind
  unfold wApp
  rw [hy]
  have hfl := flatten_len m hm
  have hby := rowsBy_flatten m hm
  cases hc : m.flatten with
  | nil =>
    have hm0 : m = [] := by
      cases m with
      | nil => rfl
      | cons r m =>
        grind
    subst hm0
    have := h a x (by grind)
    rcases ha with rfl | ⟨t, rfl, h1, h2⟩ <;> assumption
  | cons c cs =>
    have hmap : m.flatten.map AV.pv = .pv c :: cs.map .pv := by grind
    have hl : (AV.pv c :: cs.map .pv).length / k = m.length := by
      rw [← hmap, aLs0062, hfl, Nat.mul_div_cancel _ hk]
    have htp : toPVs (AV.pv c :: cs.map .pv) = some m.flatten := by grind[toPVs_map]
    rw [hmap] at hok
    simp only [wO, aLs0018, hok, hl, htp, hby]
    refine ⟨aLs0000, ?_⟩
    rcases ha with rfl | ⟨t, rfl, h1, h2⟩
    · refine ⟨⟨hb, hb2, hall⟩, ?_⟩
      have := h (.own (ts ++ x).length (rows ++ m)) (x ++ [(rows.length + m.length, e)]) (.inr ⟨_, rfl, by simp, by simp⟩)
      grind
    · refine ⟨⟨hb, hb2, h1, by omega, hall⟩, ?_⟩
      have hlt : t < (ts ++ x).length := (aLs0014.1 h1).1
      have es : (ts ++ x).set t (rows.length + m.length, e) = ts ++ x.set (t - ts.length) (rows.length + m.length, e) := aLs0114 _ _ h2
      have := h (.own t (rows ++ m)) (x.set (t - ts.length) (rows.length + m.length, e)) (.inr ⟨_, rfl, by grind, h2⟩)
      grind
theorem srcCells_rows {s : Sto} {k : Nat} {y : AV} {m : List (List PV)} (hy : RowsO y m) (hm : ∀ r ∈ m, r.length = k) : srcCells s k y = some (m.flatten.map .pv) := by
  have hall : (m.all fun r => r.length == k) = true := by grind
  rcases hy with (rfl | rfl) | ⟨t, rfl⟩ <;> grind[srcCells,rowsOf]
theorem intRows_row {l : List Int} : ∀ r ∈ intRows l, r.length = 1 := by
  intro r hr
  obtain ⟨n, _, rfl⟩ := aLs0052.1 hr
  rfl
theorem intRows_ok {l : List Int} : ((intRows l).flatten.map AV.pv).all okCell = true := by grind[intRows,okCell]
theorem call_esc2 {E : Env} {f : FuncId} {fn : Func} {body : Code} {args : List AV} {L : Lim} {s : Sto} {Post : AV → Sto → Prop} (hfn : E.P.funcs[f]? = some fn) (hb : fn.body = some body) (hk : E.kind f = .esc) (hc : E.clone f = true) (ht : (E.told f).isNone = true) (he : emptyArg args = false) (hl : args.length ≤ fn.ntmps)
    (h : Wp E (LFE E f L.n0 L.ro L.rt) fn.ntmps fn.results.toList body [] (argEnv 0 args) s Post) :
    ∃ v s', Post v s' ∧ CallE E L f args s v s' := by
  obtain ⟨r, s', n, h1, h2⟩ := body_of hb h
  refine ⟨r, s', h2, n + 1, fun m hm => ?_⟩
  obtain ⟨m, rfl⟩ : ∃ m', m = m' + 1 := ⟨m - 1, by omega⟩
  simp_all[callN,toldA,LFE,enterA]
theorem call_empty {E : Env} {f : FuncId} {fn : Func} {args : List AV} {L : Lim} {s : Sto} (hfn : E.P.funcs[f]? = some fn) (hc : E.clone f = true) (ht : (E.told f).isNone = true) (he : emptyArg args = true) : CallE E L f args s (.capped []) s := by
  refine ⟨1, fun m hm => ?_⟩
  obtain ⟨m, rfl⟩ : ∃ m', m = m' + 1 := ⟨m - 1, by omega⟩
  simp_all[callN,toldA]
end Go.Tel
