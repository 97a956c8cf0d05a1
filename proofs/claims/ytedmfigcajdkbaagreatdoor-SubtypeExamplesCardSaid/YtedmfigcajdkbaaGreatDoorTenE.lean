/-
  Bodies and calls: the evaluator's answer is the program's.
-/
import Derived.Test.YtedmfigcajdkbaaGreatDoorTenD
namespace Go.Tel

def rvOf (tmps : Array Value) : ResultVar → Sem Value
  | .tmp t => pure (tmps.getD t undef)
  | .cell x t => do loadVar t (← asAddr (tmps.getD x undef))

theorem results_eq (fn : Func) (tmps : Array Value) : results fn tmps = (do let vs ← fn.results.mapM (rvOf tmps); pure (if h : vs.size = 1 then vs[0] else .tuple vs)) := by
  rfl

theorem run_result {E : Env} {g : Ghost} {w : World} {st : St} {a : Act} (hs : Sim E g w st a) {r : ResultVar} {v : AV} (h : resultA E st r = some v) :
    ∃ u, (rvOf a.tmps r).run E.P w = .ok u w ∧ V g w v u := by
  cases r with
  | tmp t =>
    simp [resultA] at h; subst h
    exact ⟨_, rfl, hs.tmps t⟩
  | cell x t =>
    simp only [resultA] at h
    obtain ⟨u, h1, h2⟩ := loadA_sound hs.inv (hs.tmps x) h
    refine ⟨u, ?_, h2⟩
    simp only [rvOf]
    generalize a.tmps.getD x undef = q at h1 ⊢
    simp only [Instr.loadAt] at h1
    cases q with
    | pointer p =>
      cases p with
      | none => simp [Instr.sureAddr, stuck] at h1
      | some p => simpa [Instr.sureAddr, asAddr] using h1
    | _ => simp [Instr.sureAddr, stuck] at h1

theorem run_results {E : Env} {g : Ghost} {w : World} {st : St} {a : Act} (hs : Sim E g w st a) : ∀ (rs : List ResultVar) (vs : List AV), resultsA E st rs = some vs →
    ∃ us, (rs.mapM (rvOf a.tmps)).run E.P w = .ok us w ∧ VL g w vs us
  | [], vs, h => by
    simp [resultsA] at h; subst h
    exact ⟨[], by simp, .nil⟩
  | r :: rs, vs, h => by
    simp only [resultsA] at h
    split at h
    · rename_i v vs' h1 h2
      simp at h; subst h
      obtain ⟨u, k1, k2⟩ := run_result hs h1
      obtain ⟨us, k3, k4⟩ := run_results hs rs vs' h2
      refine ⟨u :: us, ?_, .cons k2 k4⟩
      simp [List.mapM_cons, k1, k3]
    · simp at h

theorem results_sound {E : Env} {g : Ghost} {w : World} {st : St} {a : Act} {fn : Func} {vs : List AV} (hs : Sim E g w st a) (h : resultsA E st fn.results.toList = some vs) :
    ∃ u, (results fn a.tmps).run E.P w = .ok u w ∧ V g w (packA vs) u := by
  obtain ⟨us, h1, h2⟩ := run_results hs _ _ h
  have hr : (results fn a.tmps).run E.P w = .ok (if h : us.toArray.size = 1 then us.toArray[0] else .tuple us.toArray) w := by
    rw [results_eq, Array.mapM_eq_mapM_toList]
    simp [h1]
  refine ⟨_, hr, ?_⟩
  match vs, h2 with
  | [], h2 =>
    have := h2.nil_inv
    subst this
    simpa [packA] using V.tuple' h2
  | [v], h2 =>
    obtain ⟨u, us', rfl, k1, k2⟩ := h2.cases
    have := k2.nil_inv
    subst this
    simpa [packA] using k1
  | v1 :: v2 :: vs', h2 =>
    have hl := h2.len
    simp only [List.length_cons] at hl
    rw [dif_neg (by rw [List.size_toArray]; omega)]
    exact V.tuple' h2

theorem initρ_sound {g : Ghost} {w : World} : ∀ (args : List AV) (vs : List Value) (n t : Nat), VL g w args vs → V g w (initρ args t) ((vs ++ List.replicate n undef)[t]?.getD undef)
  | [], vs, n, t, h => by
    rw [h.nil_inv]
    have : ((([] : List Value) ++ List.replicate n undef)[t]?.getD undef) = undef := by
      simp only [List.nil_append, List.getElem?_replicate]
      split <;> rfl
    rw [this]
    exact V.tuple' .nil
  | x :: xs, vs, n, t, h => by
    obtain ⟨u, us, rfl, h1, h2⟩ := h.cases
    cases t with
    | zero => simpa [initρ] using h1
    | succ t => simpa [initρ] using initρ_sound xs us n t h2

/-- What a body gives. -/
theorem bodyA_sound {E : Env} {cf : Lim → CallF} {n : Nat} {L : Lim} {f : FuncId} {fn : Func} {args : List AV} {s s' : Sto} {v : AV} {g : Ghost} {w : World} {vs : List Value} {body : Code} (hcf : CallOk E L (cf L)) (hmix : E.P.follows .mixedOrders = true)
    (hfn : E.P.funcs[f]? = some fn) (hbody : fn.body = some body) (hpl : plansOk L.pl body = true) (hN : args.length ≤ fn.ntmps)
    (hI : Inv E g w s) (hargs : VL g w args vs) (h : bodyA E cf n fn L args s = some (v, s')) :
    Calls E.P f vs.toArray w fun e w' => ∃ v' g', e = .returned v' ∧ V g' w' v v' ∧ Ext L g w g' w' ∧ Inv E g' w' s' := by
  unfold bodyA at h
  rw [hbody] at h
  simp only at h
  refine calls_of_wp hfn hbody ?_
  have hs : Sim E g w ⟨fn.ntmps, initρ args, s⟩ { tmps := vs.toArray ++ Array.replicate (fn.ntmps - vs.toArray.size) undef, defers := [] } := by
    refine ⟨hI, ?_, fun t => ?_⟩
    · have := hargs.len
      simp; omega
    · have := initρ_sound args vs (fn.ntmps - vs.length) t hargs
      simpa [Array.getElem?_append, List.getElem?_append, Array.getElem?_replicate, List.getElem?_replicate] using this
  split at h
  · simp at h
  · rename_i o st hne hev
    split at h
    · rename_i rs hrs
      simp only [Option.some.injEq, Prod.mk.injEq] at h
      obtain ⟨rfl, rfl⟩ := h
      refine (evW_sound hcf hmix n body _ _ _ hpl hev).1 g w _ _ hs fun a' w' g' q1 q2 q3 q4 => ?_
      obtain ⟨u, r1, r2⟩ := results_sound q1 hrs
      have : a'.defers = [] ∧ ∃ v, (results fn a'.tmps).run E.P w' = .ok v w' ∧ (∃ v' g', Ending.returned v = .returned v' ∧ V g' w' (packA rs) v' ∧ Ext L g w g' w' ∧ Inv E g' w' st.s) := ⟨q2, u, r1, u, g', rfl, r2, q3, q1.inv⟩
      cases o with
      | norm => exact this
      | exit id => exact absurd rfl (hne id)
      | ret => exact this
    · simp at h
  · simp at h

theorem Ext.lim {L L' : Lim} {g g' : Ghost} {w w' : World} (h : Ext L g w g' w') (h1 : L'.ro = L.ro) (h2 : L'.rt = L.rt) : Ext L' g w g' w' :=
  { os := h.os, tape := h.tape, output := h.output, size := h.size, mono := h.mono, cell := h.cell, blk := h.blk, dead := h.dead, shape := h.shape, tok := h.tok, out := h.out, newB := h.newB, newT := h.newT, pend := h.pend, mp := h.mp, newM := h.newM
    keepM := fun id b hb => ⟨fun hlt => (h.keepM id b hb).1 (by rw [← h1]; exact hlt), (h.keepM id b hb).2⟩
    keepB := fun id b hb hlt => h.keepB id b hb (by rw [← h1]; exact hlt)
    keepT := fun t l hl hlt => h.keepT t l hl (by rw [← h2]; exact hlt) }

/-- What is asked of the program once. -/
structure Good (E : Env) : Prop where
  mix : E.P.follows .mixedOrders = true
  plans : ∀ (f : FuncId) (fn : Func) (body : Code), E.P.funcs[f]? = some fn → fn.body = some body → plansOk (E.plan f) body = true
  names : ∀ (f : FuncId) (fn : Func), E.P.funcs[f]? = some fn → fn.body.isSome = true → (fn.name == "runtime.NumGoroutine") = false

  clones : ∀ f, E.clone f = true → (∃ fn, E.P.funcs[f]? = some fn ∧ fn.body.isSome = true) ∧
    ∀ (w : World) (base : Option Addr) (cap : Nat), Calls E.P f #[.slice base 0 cap] w fun e w' => ∃ b', e = .returned (.slice b' 0 0) ∧ (w' = w ∨ ∃ o, w' = objW w o)

theorem enterA_sound {E : Env} {cf : Lim → CallF} {n : Nat} {L : Lim} {f : FuncId} {fn : Func} {args : List AV} {s s' : Sto} {v : AV} {g : Ghost} {w : World} {vs : List Value} {body : Code} (hG : Good E) (hcf : ∀ L, CallOk E L (cf L))
    (hfn : E.P.funcs[f]? = some fn) (hbody : fn.body = some body) (hI : Inv E g w s) (hargs : VL g w args vs) (h : enterA E cf n L f fn args s = some (v, s')) :
    Calls E.P f vs.toArray w fun e w' => ∃ v' g', e = .returned v' ∧ V g' w' v v' ∧ Ext L g w g' w' ∧ Inv E g' w' s' := by
  have hpl := hG.plans f fn body hfn hbody
  unfold enterA at h
  split at h
  · rename_i hN
    have pure : ∀ args', closeL [] 0 0 args = some args' → pureA E cf n f fn args' s = some (v, s') → Calls E.P f vs.toArray w fun e w' => ∃ v' g', e = .returned v' ∧ V g' w' v v' ∧ Ext L g w g' w' ∧ Inv E g' w' s' := by
      intro args' hcl h
      have hargs' : VL (Ghost.bare g.I) w args' vs := closeL_sound RefOk.nil Keeps.bare _ _ _ hcl hargs
      have hN' : args'.length ≤ fn.ntmps := by rw [hargs'.len, ← hargs.len]; exact hN
      unfold pureA at h
      split at h
      · rename_i x s1 hb
        split at h
        · rename_i y hy
          simp only [Option.some.injEq, Prod.mk.injEq] at h
          obtain ⟨rfl, rfl⟩ := h
          refine (bodyA_sound (hcf _) hG.mix hfn hbody hpl hN' hI.bare hargs' hb).mono ?_
          rintro e w' ⟨v', g', rfl, hv, hx, hi⟩
          obtain ⟨r1, r2, r3, r4⟩ := ret_pure (L := L) hI hx hi
          exact ⟨v', _, rfl, close_sound r4 r3 _ _ _ hy hv, r1, r2⟩
        · simp at h
      · simp at h
    have write : ∀ L', L'.ro = L.ro → L'.rt = L.rt → L'.pl = E.plan f → (match bodyA E cf n fn L' args s with | some (v, s') => keepA (L.rr f) s.bs.length v s' | none => none) = some (v, s') →
        Calls E.P f vs.toArray w fun e w' => ∃ v' g', e = .returned v' ∧ V g' w' v v' ∧ Ext L g w g' w' ∧ Inv E g' w' s' := by
      intro L' e1 e2 e3 h
      split at h
      · rename_i x s1 hb
        refine (bodyA_sound (hcf _) hG.mix hfn hbody (by rw [e3]; exact hpl) hN hI hargs hb).mono ?_
        rintro e w' ⟨v', g', rfl, hv, hx, hi⟩
        obtain ⟨g'', r1, r2, r3⟩ := keepA_sound hI e1 e2 hx hi hv h
        exact ⟨v', g'', rfl, r1, r2, r3⟩
      · simp at h
    generalize E.kind f = k at h
    cases k with
    | esc =>
      refine (bodyA_sound (hcf _) hG.mix hfn hbody hpl hN hI hargs h).mono ?_
      rintro e w' ⟨v', g', rfl, hv, hx, hi⟩
      exact ⟨v', g', rfl, hv, hx.lim rfl rfl, hi⟩
    | rd =>
      simp only at h
      split at h
      · rename_i args' hcl
        exact pure args' hcl h
      · split at h
        · rename_i x s1 hb
          split at h
          · rename_i y hy
            simp only [Option.some.injEq, Prod.mk.injEq] at h
            obtain ⟨rfl, rfl⟩ := h
            refine (bodyA_sound (hcf _) hG.mix hfn hbody hpl hN hI hargs hb).mono ?_
            rintro e w' ⟨v', g', rfl, hv, hx, hi⟩
            obtain ⟨r1, r2, r3, r4⟩ := ret_rd (L := L) hI rfl rfl hx hi
            exact ⟨v', _, rfl, close_sound r4 r3 _ _ _ hy hv, r1, r2⟩
          · simp at h
        · simp at h
    | im =>
      cases hb : noIdL args with
      | true =>
        simp only [hb, cond_true] at h
        exact pure args (noId_closeL 0 0 args hb) h
      | false =>
        simp only [hb, cond_false] at h
        exact write ⟨s.bs.length, L.ro, L.rt, E.mu f, E.rr f, E.plan f⟩ rfl rfl rfl h
    | st => exact write ⟨s.bs.length, L.ro, L.rt, E.mu f, E.rr f, E.plan f⟩ rfl rfl rfl h
  · simp at h

theorem callN_sound {E : Env} (hG : Good E) : ∀ (n : Nat) (L : Lim), CallOk E L (callN E n L)
  | 0, L => by intro f args s s' v g w vs h; simp [callN] at h
  | n + 1, L => by
    intro f args s s' v g w vs h hI hargs
    simp only [callN] at h
    split at h
    · rename_i fn hfn
      cases hcl : (E.clone f && emptyArg args) with
      | true =>
        rw [hcl] at h
        simp only [cond_true, Option.some.injEq, Prod.mk.injEq] at h
        obtain ⟨rfl, rfl⟩ := h
        simp only [Bool.and_eq_true] at hcl
        obtain ⟨⟨fn', k1, k2⟩, k3⟩ := hG.clones f hcl.1
        refine ⟨⟨fn', k1, k2, hG.names f fn' k1 k2⟩, ?_⟩
        have he := hcl.2
        unfold emptyArg at he
        split at he
        · rename_i x
          obtain ⟨u, us, rfl, h1, h2⟩ := hargs.cases
          have := h2.nil_inv
          subst this
          split at he
          · rename_i hr
            obtain ⟨base, cap, b, o, sz, q, rfl, _, _⟩ := rowsOf_sound h1 hr
            refine (k3 w base cap).mono ?_
            rintro e w' ⟨b', rfl, hw⟩
            have hv : ∀ g w', V g w' (.capped []) (.slice b' 0 0) := fun g w' => V.capped (rows := []) (b := 0) (o := 0) (sz := 0) (f := fun _ _ => undef) RowsAt.nil
            rcases hw with rfl | ⟨ob, rfl⟩
            · exact ⟨_, g, rfl, hv _ _, Ext.refl _ _ _, hI⟩
            · obtain ⟨r1, r2⟩ := Inv.pushO (L := L) hI ob
              exact ⟨_, _, rfl, hv _ _, r1, r2⟩
          · simp at he
        · simp at he
      | false =>
      rw [hcl] at h
      simp only [cond_false] at h
      cases hb : fn.body with
      | none =>
        exfalso
        unfold enterA at h
        split at h
        · have hnb : ∀ L args s, bodyA E (callN E n) n fn L args s = none := fun L args s => by simp [bodyA, hb]
          simp only [pureA, hnb] at h
          generalize E.kind f = k at h
          cases k with
          | esc => simp at h
          | rd => simp only at h; split at h <;> simp at h
          | im => cases hb : noIdL args <;> simp [hb] at h
          | st => simp at h
        · simp at h
      | some body =>
        refine ⟨⟨fn, hfn, by simp [hb], hG.names f fn hfn (by simp [hb])⟩, ?_⟩
        exact enterA_sound hG (callN_sound hG n) hfn hb hI hargs h
    · simp at h

end Go.Tel
