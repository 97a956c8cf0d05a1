/-
  What a piece of code needs is enough; calls.
-/
import Derived.Test.YtcmeadgdojfhnaaGreatDoorWvB
set_option linter.unusedSimpArgs false
set_option linter.unusedVariables false
namespace Go.Tel
theorem CodeE.seq {E : Env} {L : Lim} {a b : Code} {st st1 st2 : St} {o : Out} (h1 : CodeE E L a st .norm st1) (h2 : CodeE E L b st1 o st2) : CodeE E L (.seq a b) st o st2 := by
  obtain ⟨n1, h1⟩ := h1
  obtain ⟨n2, h2⟩ := h2
  refine ⟨n1 + n2 + 1, fun m k hm hk => ?_⟩
  obtain ⟨k, rfl⟩ : ∃ k', k = k' + 1 := ⟨k - 1, by omega⟩
  grind[evW]
theorem CodeE.seqO {E : Env} {L : Lim} {a b : Code} {st st1 : St} {o : Out} (h1 : CodeE E L a st o st1) (ho : o ≠ .norm) : CodeE E L (.seq a b) st o st1 := by
  obtain ⟨n1, h1⟩ := h1
  refine ⟨n1 + 1, fun m k hm hk => ?_⟩
  obtain ⟨k, rfl⟩ : ∃ k', k = k' + 1 := ⟨k - 1, by omega⟩
  grind[evW]
theorem CodeE.loop {E : Env} {L : Lim} {b : Code} {st st1 st2 : St} {o : Out} (h1 : CodeE E L b st .norm st1) (h2 : CodeE E L (.loop b) st1 o st2) : CodeE E L (.loop b) st o st2 := by
  obtain ⟨n1, h1⟩ := h1
  obtain ⟨n2, h2⟩ := h2
  refine ⟨n1 + n2 + 1, fun m k hm hk => ?_⟩
  obtain ⟨k, rfl⟩ : ∃ k', k = k' + 1 := ⟨k - 1, by omega⟩
  grind[evW]
theorem CodeE.loopO {E : Env} {L : Lim} {b : Code} {st st1 : St} {o : Out} (h1 : CodeE E L b st o st1) (ho : o ≠ .norm) : CodeE E L (.loop b) st o st1 := by
  obtain ⟨n1, h1⟩ := h1
  refine ⟨n1 + 1, fun m k hm hk => ?_⟩
  obtain ⟨k, rfl⟩ : ∃ k', k = k' + 1 := ⟨k - 1, by omega⟩
  grind[evW]
def outB (id : Nat) : Out → Out
  | .exit j => bif Nat.beq j id then .norm else .exit j
  | o => o
theorem CodeE.block {E : Env} {L : Lim} {id : Nat} {b : Code} {st st1 : St} {o : Out} (h1 : CodeE E L b st o st1) : CodeE E L (.block id b) st (outB id o) st1 := by
  obtain ⟨n1, h1⟩ := h1
  refine ⟨n1 + 1, fun m k hm hk => ?_⟩
  obtain ⟨k, rfl⟩ : ∃ k', k = k' + 1 := ⟨k - 1, by omega⟩
  simp only [evW, h1 m k (by omega) (by omega)]
  cases o with
  | exit j => grind[outB]
  | norm => rfl
  | ret => rfl
theorem CodeE.simple {E : Env} {L : Lim} {c : Code} {st st1 : St} {o : Out} (h : ∀ cf k, evW E cf (k + 1) L c st = some (o, st1)) : CodeE E L c st o st1 := by
  refine ⟨1, fun m k hm hk => ?_⟩
  obtain ⟨k, rfl⟩ : ∃ k', k = k' + 1 := ⟨k - 1, by omega⟩
  grind
theorem CodeE.cond {E : Env} {L : Lim} {c : Operand} {a b : Code} {st st1 : St} {o : Out} {t : Bool} (hc : evalO st.ρ c = .pv (.sc (.bool t))) (h : CodeE E L (bif t then a else b) st o st1) : CodeE E L (.cond c a b) st o st1 := by
  obtain ⟨n1, h1⟩ := h
  refine ⟨n1 + 1, fun m k hm hk => ?_⟩
  obtain ⟨k, rfl⟩ : ∃ k', k = k' + 1 := ⟨k - 1, by omega⟩
  grind[evW]
theorem CodeE.region {E : Env} {L : Lim} {id : Nat} {ops : Array Oper} {st st1 : St} {n : Nat} (h : ∀ m, n ≤ m → opsA E L (callN E m L) ops ops.toList st = some st1) : CodeE E L (.region id ops false) st .norm st1 := by
  refine ⟨n + 1, fun m k hm hk => ?_⟩
  obtain ⟨k, rfl⟩ : ∃ k', k = k' + 1 := ⟨k - 1, by omega⟩
  grind[evW]
theorem CodeE.draws {E : Env} {L : Lim} {id : Nat} {ops : Array Oper} {st st1 : St} {n : Nat} {p : Plan} (hp : L.pl id = some p) (h : ∀ m, n ≤ m → regA E L (callN E m L) p ops st = some st1) : CodeE E L (.region id ops true) st .norm st1 := by
  have hf : ∃ st0, firstA E L ops p.cls p.first st = some st0 := by
    have := h n (Nat.le_refl n)
    grind[regA]
  obtain ⟨st0, hf⟩ := hf
  refine ⟨n + 1, fun m k hm hk => ?_⟩
  obtain ⟨k, rfl⟩ : ∃ k', k = k' + 1 := ⟨k - 1, by omega⟩
  grind[evW,pickP,planned]
theorem Unw.ret {E : Env} {L : Lim} {Q : Out → St → Prop} {st : St} (h : Q .ret st) : ∀ ks, Unw E L Q ks .ret st
  | [] => h
  | .seq b :: ks => Unw.ret h ks
  | .blk id :: ks => Unw.ret h ks
  | .loop b :: ks => Unw.ret h ks
theorem Agr.prune {lv : Nat → List Nat} {c : Code} {env : En} {ρ : Nat → AV} (h : Agr (lkE env) ρ) : Agr (lkE (prune lv c env)) ρ := by
  unfold Tel.prune
  split
  · rename_i k hk
    have : ∀ l : List Nat, Agr (lkE (l.filterMap fun t => match lkE env t with
        | some v => some (t, v)
        | none => none)) ρ := by
      intro l
      induction l with
      | nil => intro t v hv; simp_all
      | cons x l ih =>
        simp only [List.filterMap_cons]
        cases hx : lkE env x with
        | none => omega
        | some u =>
          intro t v hv
          simp only [lkE] at hv
          cases hb : Nat.beq t x with
          | true =>
            rw [hb] at hv
            simp at hv
            rw [Nat.eq_of_beq_eq_true hb, ← hv]
            exact h x u hx
          | false => rw [hb] at hv; exact ih t v hv
    exact this (lv k)
  omega
theorem wRes_sound {E : Env} {N : Nat} {lk : Lk} {ρ : Nat → AV} {s : Sto} (hA : Agr lk ρ) : ∀ (rs : List ResultVar) (K : List AV → Prop), wRes E lk s rs K → ∃ vs, resultsA E ⟨N, ρ, s⟩ rs = some vs ∧ K vs
  | [], K, h => ⟨[], rfl, h⟩
  | .tmp t :: rs, K, h => by
    obtain ⟨v, h1, h2⟩ := wO_inv h
    obtain ⟨vs, h3, h4⟩ := wRes_sound (N := N) hA rs _ h2
    exact ⟨_, by simp only [resultsA, resultA, h3, hA t v h1], h4⟩
  | .cell a t :: rs, K, h => by
    obtain ⟨v, h1, h⟩ := wO_inv h
    obtain ⟨k, h2, h⟩ := wO_inv h
    obtain ⟨u, h3, h⟩ := ld_ok h2 h
    obtain ⟨vs, h4, h5⟩ := wRes_sound (N := N) hA rs _ h
    exact ⟨_, by simp only [resultsA, resultA, h4, hA a v h1, h3], h5⟩
section
variable {E : Env} {L : Lim} {N : Nat} {lv : Nat → List Nat} {ct : Nat → Bool} {rs : List ResultVar} {QR : AV → Sto → Prop}
theorem fin_of {env : En} {ρ : Nat → AV} {s : Sto} (hA : Agr (lkE env) ρ) (h : wRes E (lkE env) s rs fun vs => QR (packA vs) s) {o : Out} (ho : ∀ id, o ≠ .exit id) : Fin E rs QR o ⟨N, ρ, s⟩ := by
  obtain ⟨vs, h1, h2⟩ := wRes_sound (N := N) hA rs _ h
  exact ⟨ho, vs, h1, h2⟩
theorem unw_sound : ∀ (ks : List Frame) (env : En) (s : Sto) (ρ : Nat → AV), Agr (lkE env) ρ →
    (wUE E L N lv rs QR ks none env s → Unw E L (Fin E rs QR) ks .norm ⟨N, ρ, s⟩) ∧ (∀ j, wUE E L N lv rs QR ks (some j) env s → Unw E L (Fin E rs QR) ks (.exit j) ⟨N, ρ, s⟩)
  | [], env, s, ρ, hA => ⟨fun h => fin_of hA h (fun _ => by simp), fun j h => h.elim⟩
  | .seq b :: ks, env, s, ρ, hA => by
    refine ⟨fun h => ?_, fun j h => ?_⟩
    · have ret : wRes E (lkE env) s rs (fun vs => QR (packA vs) s) → ∃ o st', CodeE E L .ret ⟨N, ρ, s⟩ o st' ∧ Unw E L (Fin E rs QR) ks o st' := fun h =>
        ⟨.ret, _, CodeE.simple fun _ _ => rfl, Unw.ret (fin_of hA h (fun _ => by simp)) ks⟩
      have skip : wUE E L N lv rs QR ks none env s → ∃ o st', CodeE E L .skip ⟨N, ρ, s⟩ o st' ∧ Unw E L (Fin E rs QR) ks o st' := fun h =>
        ⟨.norm, _, CodeE.simple fun _ _ => rfl, (unw_sound ks env s ρ hA).1 h⟩
      have ex : ∀ j, wUE E L N lv rs QR ks (some j) env s → ∃ o st', CodeE E L (.exit j) ⟨N, ρ, s⟩ o st' ∧ Unw E L (Fin E rs QR) ks o st' := fun j h =>
        ⟨.exit j, _, CodeE.simple fun _ _ => rfl, (unw_sound ks env s ρ hA).2 j h⟩
      have any : ∀ b, Wp E L N rs b ks (prune lv b env) s QR → ∃ o st', CodeE E L b ⟨N, ρ, s⟩ o st' ∧ Unw E L (Fin E rs QR) ks o st' := fun b h => h ρ hA.prune
      grind[Unw]
    · exact (unw_sound ks env s ρ hA).2 j h
  | .blk id :: ks, env, s, ρ, hA => by
    refine ⟨fun h => ?_, fun j h => ?_⟩
    · exact (unw_sound ks env s ρ hA).1 h
    · change (match Nat.beq j id with | true => wUE E L N lv rs QR ks none env s | false => wUE E L N lv rs QR ks (some j) env s) at h
      show (bif Nat.beq j id then Unw E L (Fin E rs QR) ks .norm ⟨N, ρ, s⟩ else Unw E L (Fin E rs QR) ks (.exit j) ⟨N, ρ, s⟩)
      cases hb : Nat.beq j id with
      | true => rw [hb] at h; exact (unw_sound ks env s ρ hA).1 h
      | false => rw [hb] at h; exact (unw_sound ks env s ρ hA).2 j h
  | .loop b :: ks, env, s, ρ, hA => by
    refine ⟨fun h => ?_, fun j h => ?_⟩
    · exact h ρ hA.prune
    · exact (unw_sound ks env s ρ hA).2 j h
theorem Wp.seq {a b : Code} {ks : List Frame} {env : En} {s : Sto} (h : Wp E L N rs a (.seq b :: ks) env s QR) : Wp E L N rs (.seq a b) ks env s QR := by
  intro ρ hA
  obtain ⟨o, st, h1, h2⟩ := h ρ hA
  cases o with
  | norm =>
    obtain ⟨o, st', h3, h4⟩ := h2
    exact ⟨o, st', h1.seq h3, h4⟩
  | exit j => exact ⟨_, _, h1.seqO (by simp), h2⟩
  | ret => exact ⟨_, _, h1.seqO (by simp), h2⟩
theorem Wp.loop {b : Code} {ks : List Frame} {env : En} {s : Sto} (h : Wp E L N rs b (.loop b :: ks) env s QR) : Wp E L N rs (.loop b) ks env s QR := by
  intro ρ hA
  obtain ⟨o, st, h1, h2⟩ := h ρ hA
  cases o with
  | norm =>
    obtain ⟨o, st', h3, h4⟩ := h2
    exact ⟨o, st', h1.loop h3, h4⟩
  | exit j => exact ⟨_, _, h1.loopO (by simp), h2⟩
  | ret => exact ⟨_, _, h1.loopO (by simp), h2⟩
theorem Wp.block {id : Nat} {b : Code} {ks : List Frame} {env : En} {s : Sto} (h : Wp E L N rs b (.blk id :: ks) env s QR) : Wp E L N rs (.block id b) ks env s QR := by
  intro ρ hA
  obtain ⟨o, st, h1, h2⟩ := h ρ hA
  refine ⟨_, st, h1.block, ?_⟩
  cases o with
  | norm => exact h2
  | ret => exact h2
  | exit j =>
    grind[Unw,outB]
theorem wp_region {id : Nat} {ops : Array Oper} {env : En} {s : Sto} {K : En → Sto → Prop} (h : wOps E L N ops ops.toList env s K) (ρ : Nat → AV) (hA : Agr (lkE env) ρ) : ∃ env' ρ' s', CodeE E L (.region id ops false) ⟨N, ρ, s⟩ .norm ⟨N, ρ', s'⟩ ∧ Agr (lkE env') ρ' ∧ K env' s' := by
  obtain ⟨env', ρ', s', n, h1, h2, h3⟩ := wOps_sound _ _ (Nat.le_refl _) _ _ ρ h hA
  exact ⟨env', ρ', s', CodeE.region h1, h2, h3⟩
theorem wp_draws {id : Nat} {ops : Array Oper} {env : En} {s : Sto} {K : En → Sto → Prop} (h : wO (L.pl id) fun p => wReg E L N p ops env s K) (ρ : Nat → AV) (hA : Agr (lkE env) ρ) : ∃ env' ρ' s', CodeE E L (.region id ops true) ⟨N, ρ, s⟩ .norm ⟨N, ρ', s'⟩ ∧ Agr (lkE env') ρ' ∧ K env' s' := by
  obtain ⟨p, hp, h⟩ := wO_inv h
  obtain ⟨env', ρ', s', n, h1, h2, h3⟩ := wReg_sound h hA
  exact ⟨env', ρ', s', CodeE.draws hp h1, h2, h3⟩
theorem wpc_sound : ∀ (c : Code) (ks : List Frame) (env : En) (s : Sto), wpc E L N lv ct rs QR c ks env s → Wp E L N rs c ks env s QR := by
  intro c
  induction c with
  | skip => exact fun ks env s h ρ hA => ⟨.norm, _, CodeE.simple fun _ _ => rfl, (unw_sound ks env s ρ hA).1 h⟩
  | ret => exact fun ks env s h ρ hA => ⟨.ret, _, CodeE.simple fun _ _ => rfl, Unw.ret (fin_of hA h (fun _ => by simp)) ks⟩
  | exit j => exact fun ks env s h ρ hA => ⟨.exit j, _, CodeE.simple fun _ _ => rfl, (unw_sound ks env s ρ hA).2 j h⟩
  | region id ops d =>
    intro ks env s h ρ hA
    cases d with
    | false =>
      obtain ⟨env', ρ', s', h1, h2, h3⟩ := wp_region (id := id) h ρ hA
      exact ⟨.norm, _, h1, (unw_sound ks env' s' ρ' h2).1 h3⟩
    | true =>
      obtain ⟨env', ρ', s', h1, h2, h3⟩ := wp_draws h ρ hA
      exact ⟨.norm, _, h1, (unw_sound ks env' s' ρ' h2).1 h3⟩
  | seq a b iha ihb =>
    intro ks env s h
    have go : ∀ ks env s, (match cutB ct b with
          | true => Wp E L N rs b ks (prune lv b env) s QR
          | false => wpc E L N lv ct rs QR b ks env s) → Wp E L N rs b ks env s QR := by
      intro ks env s h
      cases hc : cutB ct b with
      | true =>
        rw [hc] at h
        exact fun ρ hA => h ρ hA.prune
      | false =>
        simp_all
    have gen : wpc E L N lv ct rs QR a (.seq b :: ks) env s → Wp E L N rs (.seq a b) ks env s QR := fun h => Wp.seq (iha _ _ _ h)
    cases a with
    | region id ops d =>
      intro ρ hA
      cases d with
      | false =>
        obtain ⟨env', ρ', s', h1, h2, h3⟩ := wp_region (id := id) h ρ hA
        obtain ⟨o, st, h4, h5⟩ := go _ _ _ h3 ρ' h2
        exact ⟨o, st, h1.seq h4, h5⟩
      | true =>
        obtain ⟨env', ρ', s', h1, h2, h3⟩ := wp_draws h ρ hA
        obtain ⟨o, st, h4, h5⟩ := go _ _ _ h3 ρ' h2
        exact ⟨o, st, h1.seq h4, h5⟩
    | _ => simp[*]
  | cond c a b iha ihb =>
    intro ks env s h ρ hA
    obtain ⟨cv, h1, h⟩ := wO_inv h
    unfold wCond at h
    split at h
    · rename_i t
      cases t with
      | true =>
        obtain ⟨o, st, h3, h4⟩ := iha _ _ _ (h.1 rfl) ρ hA
        exact ⟨o, st, CodeE.cond (evL_eq hA h1) h3, h4⟩
      | false =>
        obtain ⟨o, st, h3, h4⟩ := ihb _ _ _ (h.2 rfl) ρ hA
        exact ⟨o, st, CodeE.cond (evL_eq hA h1) h3, h4⟩
    simp_all
  | block id b ih => simp_all[Wp.block]
  | loop b ih => exact fun ks env s h ρ hA => h ρ hA.prune
  | rangeFunc g ps a b _ _ => exact fun ks env s h ρ hA => h ρ hA.prune
  | _ => simp
theorem wpl_sound {b : Code} {ks : List Frame} {env : En} {s : Sto} (h : wpc E L N lv ct rs QR b (.loop b :: ks) env s) : Wp E L N rs (.loop b) ks env s QR := Wp.loop (wpc_sound _ _ _ _ h)
theorem wpc_mp {A : Prop} (c : Code) (ks : List Frame) (env : En) (s : Sto) (h : A) (e : A = wpc E L N lv ct rs QR c ks env s) : Wp E L N rs c ks env s QR := wpc_sound c ks env s (e ▸ h)
end
end Go.Tel
/-
  A greater bound on nested calls changes no answer.
-/
namespace Go.Tel
def CfLe (cf cf' : CallF) : Prop := ∀ f args s r, cf f args s = some r → cf' f args s = some r
theorem actA_mono {E : Env} {L : Lim} {cf cf' : CallF} (hc : CfLe cf cf') {ρ : Nat → AV} {s : Sto} {o : Oper} {r : AV × Sto} (h : actA E L cf ρ s o = some r) : actA E L cf' ρ s o = some r := by
  obtain ⟨dst, op, type, pos, after, guard⟩ := o
  cases op with
  | call c =>
    obtain ⟨callee, args, ts⟩ := c
    cases callee with
    | builtin b => exact h
    | value f =>
      simp only [actA] at h ⊢
      split at h
      · exact hc _ _ _ _ h
      omega
    | invoke x n => assumption
  | _ => exact h
theorem stepA_mono {E : Env} {L : Lim} {cf cf' : CallF} (hc : CfLe cf cf') {st st' : St} {o : Oper} (h : stepA E L cf st o = some st') : stepA E L cf' st o = some st' := by grind[stepA,actA_mono]
theorem opsA_mono {E : Env} {L : Lim} {cf cf' : CallF} (hc : CfLe cf cf') {ops : Array Oper} : ∀ (n : Nat) (l : List Oper), l.length ≤ n → ∀ (st st' : St), opsA E L cf ops l st = some st' → opsA E L cf' ops l st = some st' := by
  intro n
  induction n with
  | zero =>
    intro l hl st st' h
    have : l = [] := List.length_eq_zero_iff.1 (by omega)
    subst this
    exact h
  | succ n ih =>
    intro l hl st st' h
    cases l with
    | nil => exact h
    | cons o rest =>
      have hl' : rest.length ≤ n := by grind
      have one : (match guardOk ops st.ρ o with
          | some true => match stepA E L cf st o with
            | some st => opsA E L cf ops rest st
            | none => none
          | some false => match putA st o.dst (.tuple []) with
            | some st => opsA E L cf ops rest st
            | none => none
          | none => none) = some st' → (match guardOk ops st.ρ o with
          | some true => match stepA E L cf' st o with
            | some st => opsA E L cf' ops rest st
            | none => none
          | some false => match putA st o.dst (.tuple []) with
            | some st => opsA E L cf' ops rest st
            | none => none
          | none => none) = some st' := by
        intro h
        split at h
        · grind[stepA_mono]
        · grind
        · omega
      match rest, hl', h, one with
      | [], hl', h, one =>
        rw [opsA] at h ⊢ <;> first | exact one h | simp
      | [o1], hl', h, one =>
        rw [opsA] at h ⊢ <;> first | exact one h | simp
      | o1 :: o2 :: rest', hl', h, one =>
        rw [opsA] at h ⊢
        cases hk : fused o o1 o2 with
        | none => rw [hk] at h; exact one h
        | some k =>
          simp only [hk] at h ⊢
          cases h1 : fuseA E L st.ρ st.s k with
          | some q =>
            grind
          | none =>
            simp only [h1] at h ⊢
            exact one h
theorem actG_mono {E : Env} {L : Lim} {cf cf' : CallF} (hc : CfLe cf cf') {ops : Array Oper} {ρ : Nat → AV} {s : Sto} {o : Oper} {r : AV × Sto} (h : actG E L cf ops ρ s o = some r) : actG E L cf' ops ρ s o = some r := by grind[actG,actA_mono]
theorem restA_mono {E : Env} {L : Lim} {cf cf' : CallF} (hc : CfLe cf cf') {ops : Array Oper} {cls : List Cls} : ∀ (l : List Nat) (st : St) (acc : List Sto) (r : St × List Sto), restA E L cf ops cls l st acc = some r → restA E L cf' ops cls l st acc = some r
  | [], st, acc, r, h => h
  | i :: rest, st, acc, r, h => by
    simp only [restA] at h ⊢
    cases ho : ops[i]? with
    | none => grind
    | some o =>
      cases hcl : cls[i]? with
      | none => grind
      | some c =>
        simp only [ho, hcl] at h ⊢
        cases c with
        | q ts =>
          simp only at h ⊢
          cases h1 : quietG E L ops st.ρ st.s o with
          | none => grind
          | some v =>
            simp only [h1] at h ⊢
            cases h2 : putA st o.dst v with
            | none => grind
            | some st1 =>
              simp only [h2] at h ⊢
              exact restA_mono hc rest _ _ _ h
        | w k =>
          simp only at h ⊢
          cases h1 : actG E L cf ops st.ρ st.s o with
          | none => grind
          | some v =>
            obtain ⟨v, s⟩ := v
            simp only [h1, actG_mono hc h1] at h ⊢
            cases h2 : putA { st with s := s } o.dst v with
            | none => grind
            | some st1 =>
              simp only [h2] at h ⊢
              exact restA_mono hc rest _ _ _ h
        | fa k j x =>
          simp only at h ⊢
          cases hj : ops[j]? with
          | none => grind
          | some o1 =>
            cases hx : ops[x]? with
            | none => grind
            | some o2 =>
              simp only [hj, hx] at h ⊢
              cases hk : fused o o1 o2 with
              | none => grind
              | some q =>
                simp only [hk] at h ⊢
                cases h1 : fuseX E L st.ρ st.s q with
                | none => grind
                | some v =>
                  obtain ⟨v, s⟩ := v
                  simp only [h1] at h ⊢
                  cases h2 : fuseSt st q v s with
                  | none => grind
                  | some st1 =>
                    simp only [h2] at h ⊢
                    exact restA_mono hc rest _ _ _ h
        | fj => exact restA_mono hc rest _ _ _ h
        | fx => exact restA_mono hc rest _ _ _ h
        | h ts => omega
theorem planned_mono {E : Env} {L : Lim} {cf cf' : CallF} (hc : CfLe cf cf') {ops : Array Oper} {st st' : St} {p : Option Plan} (h : planned E L cf ops st p = some st') : planned E L cf' ops st p = some st' := by
  cases p with
  | none => assumption
  | some p =>
    grind[planned,regA,restA_mono]
theorem evW_mono {E : Env} {cf cf' : Lim → CallF} {L : Lim} (hc : CfLe (cf L) (cf' L)) : ∀ (n m : Nat), n ≤ m → ∀ (c : Code) (st : St) (r : Out × St), evW E cf n L c st = some r → evW E cf' m L c st = some r := by
  intro n
  induction n with
  | zero => grind[evW]
  | succ n ih =>
    intro m hm c st r h
    obtain ⟨m, rfl⟩ : ∃ m', m = m' + 1 := ⟨m - 1, by omega⟩
    have hm' : n ≤ m := by omega
    cases c with
    | skip => exact h
    | ret => exact h
    | exit id => exact h
    | region id ops d =>
      cases d with
      | false =>
        simp only [evW] at h ⊢
        split at h
        · rename_i h1
          simp only [opsA_mono hc _ _ (Nat.le_refl _) _ _ h1]
          exact h
        grind
      | true =>
        grind[evW,planned_mono]
    | seq a b =>
      grind[evW]
    | cond c a b =>
      grind[evW]
    | block id b =>
      grind[evW]
    | loop b =>
      grind[evW]
    | rangeFunc g ps a b => simp [evW] at h
    | _ => assumption
theorem bodyA_mono {E : Env} {cf cf' : Lim → CallF} {n m : Nat} (hm : n ≤ m) {fn : Func} {L : Lim} (hc : CfLe (cf L) (cf' L)) {args : List AV} {s : Sto} {r : AV × Sto} (h : bodyA E cf n fn L args s = some r) : bodyA E cf' m fn L args s = some r := by grind[bodyA,evW_mono]
theorem pureA_mono {E : Env} {cf cf' : Lim → CallF} {n m : Nat} (hm : n ≤ m) {f : FuncId} {fn : Func} (hc : ∀ L, CfLe (cf L) (cf' L)) {args : List AV} {s : Sto} {r : AV × Sto} (h : pureA E cf n f fn args s = some r) : pureA E cf' m f fn args s = some r := by grind[pureA,bodyA_mono]
theorem enterA_mono {E : Env} {cf cf' : Lim → CallF} {n m : Nat} (hm : n ≤ m) {L : Lim} {f : FuncId} {fn : Func} (hc : ∀ L, CfLe (cf L) (cf' L)) {args : List AV} {s : Sto} {r : AV × Sto} (h : enterA E cf n L f fn args s = some r) : enterA E cf' m L f fn args s = some r := by
  unfold enterA at h ⊢
  split at h
  · rename_i hl
    rw [if_pos hl]
    have wr : ∀ b : Bool, (bif b then pureA E cf n f fn args s else
      match bodyA E cf n fn ⟨0, L.ro, L.rt, E.mu f, E.rr f, E.plan f⟩ args s with
      | some (v, s') => keepA (L.rr f) s.bs.length v s'
      | none => none) = some r → (bif b then pureA E cf' m f fn args s else
      match bodyA E cf' m fn ⟨0, L.ro, L.rt, E.mu f, E.rr f, E.plan f⟩ args s with
      | some (v, s') => keepA (L.rr f) s.bs.length v s'
      | none => none) = some r := by grind[pureA_mono,bodyA_mono]
    cases hk : E.kind f with
    | esc =>
      grind[bodyA_mono]
    | rd =>
      grind[pureA_mono,bodyA_mono]
    | im =>
      simp only [hk] at h ⊢
      exact wr _ h
    | st =>
      simp only [hk] at h ⊢
      exact wr _ h
  grind
theorem callN_mono {E : Env} : ∀ (n m : Nat), n ≤ m → ∀ L, CfLe (callN E n L) (callN E m L) := by
  intro n
  induction n with
  | zero => intro m _ L f args s r h; grind[callN]
  | succ n ih =>
    intro m hm L f args s r h
    obtain ⟨m, rfl⟩ : ∃ m', m = m' + 1 := ⟨m - 1, by omega⟩
    grind[callN,toldA,enterA_mono]
end Go.Tel
/-
  From what a body needs to what a call answers.
-/
namespace Go.Tel
theorem CallE.of_some {E : Env} {n : Nat} {L : Lim} {f : FuncId} {args : List AV} {s s' : Sto} {v : AV} (h : callN E n L f args s = some (v, s')) : CallE E L f args s v s' :=
  ⟨n, fun m hm => callN_mono n m hm L f args s (v, s') h⟩
def PureC (E : Env) (f : FuncId) (args : List AV) (Post : AV → Prop) : Prop := ∃ v, Post v ∧ ∀ L s, CallE E L f args s v s
def argEnv : Nat → List AV → En
  | _, [] => []
  | i, v :: vs => (i, v) :: argEnv (i + 1) vs
theorem argEnv_lk : ∀ (i : Nat) (vs : List AV) (t : Nat) (v : AV), lkE (argEnv i vs) t = some v → i ≤ t ∧ initρ vs (t - i) = v
  | i, [], t, v, h => by simp_all[argEnv]
  | i, u :: vs, t, v, h => by
    simp only [argEnv, lkE] at h
    cases hb : Nat.beq t i with
    | true =>
      simp_all[initρ]
    | false =>
      rw [hb] at h
      obtain ⟨h1, h2⟩ := argEnv_lk (i + 1) vs t v h
      refine ⟨by omega, ?_⟩
      have : t - i = (t - (i + 1)) + 1 := by omega
      rw [this]
      exact h2
theorem argEnv_agr (vs : List AV) : Agr (lkE (argEnv 0 vs)) (initρ vs) := fun t v h => (argEnv_lk 0 vs t v h).2
theorem body_of {E : Env} {L : Lim} {fn : Func} {body : Code} {args : List AV} {s : Sto} {QR : AV → Sto → Prop} (hb : fn.body = some body) (h : Wp E L fn.ntmps fn.results.toList body [] (argEnv 0 args) s QR) :
    ∃ v s' n, (∀ m, n ≤ m → bodyA E (callN E m) m fn L args s = some (v, s')) ∧ QR v s' := by
  obtain ⟨o, st, ⟨n, h1⟩, ho, vs, h2, h3⟩ := h _ (argEnv_agr args)
  refine ⟨packA vs, st.s, n, fun m hm => ?_, h3⟩
  grind[bodyA]
section
variable {E : Env} {f : FuncId} {fn : Func} {body : Code} {args args' : List AV}
def LFE (E : Env) (f : FuncId) (n0 ro rt : Nat) : Lim := ⟨n0, ro, rt, E.mu f, E.rr f, E.plan f⟩
theorem enter_of {L : Lim} {s s' : Sto} {v : AV} {n : Nat} (hfn : E.P.funcs[f]? = some fn) (hc : E.clone f = false) (h : ∀ m, n ≤ m → enterA E (callN E m) m L f fn args s = some (v, s')) : CallE E L f args s v s' := by
  refine ⟨n + 1, fun m hm => ?_⟩
  obtain ⟨m, rfl⟩ : ∃ m', m = m' + 1 := ⟨m - 1, by omega⟩
  grind[callN]
def QP (Post : AV → Prop) (r : AV) (s : Sto) : Prop := ∃ v, close s.bs 0 0 r = some v ∧ Post v
def QI (n m : Nat) (Post : AV → Prop) (r : AV) (s : Sto) : Prop := ∃ v, close s.bs n m r = some v ∧ Post v
def QM (rr : Bool) (n : Nat) (Post : AV → Sto → Prop) (r : AV) (s : Sto) : Prop := ∃ v s', keepA rr n r s = some (v, s') ∧ Post v s'
theorem pure_of {Post : AV → Prop} (hb : fn.body = some body)
    (h : Wp E (LFE E f 0 0 0) fn.ntmps fn.results.toList body [] (argEnv 0 args) ⟨[], []⟩ (QP Post)) :
    ∃ v n, Post v ∧ ∀ s m, n ≤ m → pureA E (callN E m) m f fn args s = some (v, s) := by
  obtain ⟨r, s', n, h1, v, h2, h3⟩ := body_of hb h
  refine ⟨v, n, h3, fun s m hm => ?_⟩
  grind[pureA,LFE]
theorem call_rd {Post : AV → Prop} (hfn : E.P.funcs[f]? = some fn) (hb : fn.body = some body) (hk : E.kind f = .rd) (hc : E.clone f = false) (hl : args.length ≤ fn.ntmps) (hcl : closeL [] 0 0 args = some args')
    (h : Wp E (LFE E f 0 0 0) fn.ntmps fn.results.toList body [] (argEnv 0 args') ⟨[], []⟩ (QP Post)) : PureC E f args Post := by
  obtain ⟨v, n, h1, h2⟩ := pure_of hb h
  refine ⟨v, h1, fun L s => enter_of (n := n) hfn hc fun m hm => ?_⟩
  grind[enterA]
theorem call_imp {Post : AV → Prop} (hfn : E.P.funcs[f]? = some fn) (hb : fn.body = some body) (hk : E.kind f = .im) (hc : E.clone f = false) (hl : args.length ≤ fn.ntmps) (hn : noIdL args = true)
    (h : Wp E (LFE E f 0 0 0) fn.ntmps fn.results.toList body [] (argEnv 0 args) ⟨[], []⟩ (QP Post)) : PureC E f args Post := by
  obtain ⟨v, n, h1, h2⟩ := pure_of hb h
  refine ⟨v, h1, fun L s => enter_of (n := n) hfn hc fun m hm => ?_⟩
  grind[enterA]
theorem call_im {L : Lim} {s : Sto} {Post : AV → Sto → Prop} (hfn : E.P.funcs[f]? = some fn) (hb : fn.body = some body) (hk : E.kind f = .im) (hc : E.clone f = false) (hl : args.length ≤ fn.ntmps) (hn : noIdL args = false)
    (h : Wp E (LFE E f 0 L.ro L.rt) fn.ntmps fn.results.toList body [] (argEnv 0 args) s (QM (L.rr f) s.bs.length Post)) :
    ∃ v s', Post v s' ∧ CallE E L f args s v s' := by
  obtain ⟨r, s', n, h1, v, s'', h2, h3⟩ := body_of hb h
  refine ⟨v, s'', h3, enter_of (n := n) hfn hc fun m hm => ?_⟩
  grind[enterA,LFE]
theorem call_st {L : Lim} {s : Sto} {Post : AV → Sto → Prop} (hfn : E.P.funcs[f]? = some fn) (hb : fn.body = some body) (hk : E.kind f = .st) (hc : E.clone f = false) (hl : args.length ≤ fn.ntmps)
    (h : Wp E (LFE E f 0 L.ro L.rt) fn.ntmps fn.results.toList body [] (argEnv 0 args) s (QM (L.rr f) s.bs.length Post)) :
    ∃ v s', Post v s' ∧ CallE E L f args s v s' := by
  obtain ⟨r, s', n, h1, v, s'', h2, h3⟩ := body_of hb h
  refine ⟨v, s'', h3, enter_of (n := n) hfn hc fun m hm => ?_⟩
  grind[enterA,LFE]
theorem call_esc {L : Lim} {s : Sto} {Post : AV → Sto → Prop} (hfn : E.P.funcs[f]? = some fn) (hb : fn.body = some body) (hk : E.kind f = .esc) (hc : E.clone f = false) (hl : args.length ≤ fn.ntmps)
    (h : Wp E (LFE E f L.n0 L.ro L.rt) fn.ntmps fn.results.toList body [] (argEnv 0 args) s Post) :
    ∃ v s', Post v s' ∧ CallE E L f args s v s' := by
  obtain ⟨r, s', n, h1, h2⟩ := body_of hb h
  refine ⟨r, s', h2, enter_of (n := n) hfn hc fun m hm => ?_⟩
  grind[enterA,LFE]
theorem call_rdI {s : Sto} {Post : AV → Prop} (hfn : E.P.funcs[f]? = some fn) (hb : fn.body = some body) (hk : E.kind f = .rd) (hc : E.clone f = false) (hl : args.length ≤ fn.ntmps) (hcl : closeL [] 0 0 args = none)
    (h : Wp E (LFE E f s.bs.length s.bs.length s.ts.length) fn.ntmps fn.results.toList body [] (argEnv 0 args) s (QI s.bs.length s.ts.length Post)) :
    ∃ v, Post v ∧ ∀ L, CallE E L f args s v s := by
  obtain ⟨r, s', n, h1, v, h2, h3⟩ := body_of hb h
  refine ⟨v, h3, fun L => enter_of (n := n) hfn hc fun m hm => ?_⟩
  grind[enterA,LFE]
end
theorem mpK {A B : Prop} (h : A) (e : A = B) : B := e ▸ h
theorem wCall_pure {E : Env} {L : Lim} {f : FuncId} {args : List AV} {s : Sto} {K : AV → Sto → Prop} {Post : AV → Prop} (h : PureC E f args Post) (hK : ∀ v, Post v → K v s) : wCall E L (.func (.func f) [] []) args s K := by
  obtain ⟨v, h1, h2⟩ := h
  refine ⟨v, s, ?_, hK v h1⟩
  grind
theorem wCall_do {E : Env} {L : Lim} {f : FuncId} {args : List AV} {s : Sto} {K : AV → Sto → Prop} {Post : AV → Sto → Prop} (h : ∃ v s', Post v s' ∧ CallE E L f args s v s') (hK : ∀ v s', Post v s' → K v s') : wCall E L (.func (.func f) [] []) args s K := by
  obtain ⟨v, s', h1, h2⟩ := h
  refine ⟨v, s', ?_, hK v s' h1⟩
  grind
end Go.Tel
