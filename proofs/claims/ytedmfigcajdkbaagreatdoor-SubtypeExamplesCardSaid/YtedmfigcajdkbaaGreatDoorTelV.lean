/-
  A region with a drawn order: one operation more while nothing is open.
-/
import Derived.Test.YtedmfigcajdkbaaGreatDoorTelU
namespace Go.Tel

theorem wpOp_yes {P : Program} {ops : Array Oper} {Q : Exit → Act → World → Prop} {m : Nat} {om : Oper} {K : Act → World → Prop} {a : Act} {w : World} (hm : ops[m]? = some om)
    (hw : Region.wanted om (yielded ops a.tmps) = true) (h : om.wp P a w K Q) : wpOp P ops Q m K a w := by
  simp only [wpOp, hm, hw, if_true]
  exact .inl h

theorem wpOp_no {P : Program} {ops : Array Oper} {Q : Exit → Act → World → Prop} {m : Nat} {om : Oper} {K : Act → World → Prop} {a : Act} {w : World} (hm : ops[m]? = some om)
    (hw : Region.wanted om (yielded ops a.tmps) = false) (h : K (a.put om.dst undef) w) : wpOp P ops Q m K a w := by
  simp only [wpOp, hm, hw, Bool.false_eq_true, if_false]
  exact h

theorem wpOp_bare {P : Program} {ops : Array Oper} {Q : Exit → Act → World → Prop} {m : Nat} {om : Oper} {K : Act → World → Prop} {a : Act} {w w' : World} {v : Value} (hm : ops[m]? = some om)
    (hg : om.guard = none) (hr : (execOp a.eval om).run P w = .ok (.value v) w') (h : K (a.put om.dst v) w') : wpOp P ops Q m K a w :=
  wpOp_yes hm (by simp [Region.wanted, hg]) (by unfold Oper.wp; rw [hr]; exact h)

theorem quietA_actA {E : Env} {L : Lim} {cf : CallF} {ρ : Nat → AV} {s : Sto} {o : Oper} {v : AV} (h : quietA E L ρ s o = some v) : actA E L cf ρ s o = some (v, s) := by
  have h := quietA_opA h
  rw [actA_eq]
  unfold actO
  split
  · rename_i c hc
    split
    · exact h
    · rename_i hnb
      obtain ⟨dst, op, type, pos, after, guard⟩ := o
      simp only at hc
      subst hc
      obtain ⟨callee, args, ts⟩ := c
      cases callee with
      | builtin b => exact absurd rfl (hnb b)
      | value f => simp [opA] at h
      | invoke r n => simp [opA] at h
  · exact h

theorem fused_inv {o o1 o2 : Oper} {kf : Fuse} (h : fused o o1 o2 = some kf) :
    o.op = .call { callee := .builtin .append, args := #[kf.x, kf.y], argTypes := #[kf.t, kf.t] } ∧ o.dst = some kf.d ∧ o1.op = .indexAddr kf.t (.tmp kf.d) kf.ix ∧ o1.dst = some kf.p ∧
    o2.op = .store kf.te (.tmp kf.p) kf.v ∧ o2.dst = none ∧ kf.d ≠ kf.p ∧ (o.guard = none ∧ o1.guard = none ∧ o2.guard = none) ∧ kf.ix ≠ .tmp kf.d ∧ kf.v ≠ .tmp kf.d ∧ kf.v ≠ .tmp kf.p := by
  unfold fused at h
  split at h
  · rename_i args ts d t1 d1 ix p te p1 v ho hd ho1 hd1 ho2 hd2
    split at h
    · rename_i x y t t' ha ht
      split at h
      · rename_i hc
        obtain ⟨rfl, rfl, rfl, rfl, hne, g1, g2, g3, h1, h2, h3, _⟩ := hc
        simp at h
        subst h
        have ha' : args = #[x, y] := by rw [← Array.toArray_toList (xs := args), ha]
        have ht' : ts = #[t', t'] := by rw [← Array.toArray_toList (xs := ts), ht]
        subst ha' ht'
        have hn : ∀ (z : Operand) (q : Nat), isTmp z q = false → z ≠ .tmp q := fun z q hz e => by subst e; simp [isTmp] at hz
        exact ⟨ho, hd, ho1, hd1, ho2, hd2, hne, ⟨by simpa using g1, by simpa using g2, by simpa using g3⟩, hn _ _ h1, hn _ _ h2, hn _ _ h3⟩
      · simp at h
    · simp at h
  · simp at h

theorem fused_apart {o o1 o2 : Oper} {kf : Fuse} (h : fused o o1 o2 = some kf) : ∀ z, z = kf.x ∨ z = kf.y ∨ z = kf.ix ∨ z = kf.v → z ≠ .tmp kf.d ∧ z ≠ .tmp kf.p := by
  unfold fused at h
  split at h
  · split at h
    · split at h
      · rename_i hc
        obtain ⟨rfl, rfl, rfl, rfl, hne, g1, g2, g3, h1, h2, h3, h4, h5, h6, h7, h8⟩ := hc
        simp at h
        subst h
        have hn : ∀ (z : Operand) (q : Nat), isTmp z q = false → z ≠ .tmp q := fun z q hz e => by subst e; simp [isTmp] at hz
        rintro z (rfl | rfl | rfl | rfl)
        · exact ⟨hn _ _ h4, hn _ _ h6⟩
        · exact ⟨hn _ _ h5, hn _ _ h7⟩
        · exact ⟨hn _ _ h1, hn _ _ h8⟩
        · exact ⟨hn _ _ h2, hn _ _ h3⟩
      · simp at h
    · simp at h
  · simp at h

theorem eval_put_ne {a : Act} {d : Option Tmp} {v : Value} {z : Operand} (h : ∀ t, z = .tmp t → d ≠ some t) : (a.put d v).eval z = a.eval z := by
  cases z with
  | tmp t => exact put_other (h t rfl)
  | const c => cases d <;> rfl
  | global g => cases d <;> rfl
  | func f => cases d <;> rfl

section
variable {E : Env} {L : Lim} {cf : CallF} {ops : Array Oper} {p : Plan} {K N : Nat} {ρ0 ρf : Nat → AV} {σ : Nat → Sto} {ds : List Deferred} {g0 : Ghost} {w0 : World} {Q : Exit → Act → World → Prop}

theorem rank_w {m r : Nat} (h : p.cls[m]? = some (.w r)) : rank p m = some r := by simp [rank, h, clsRank]
theorem rank_fa {m r j x : Nat} (h : p.cls[m]? = some (.fa r j x)) : rank p m = some r := by simp [rank, h, clsRank]
theorem rank_q {m : Nat} {ts : List Nat} (h : p.cls[m]? = some (.q ts)) : rank p m = none := by simp [rank, h, clsRank]
theorem rank_h {m : Nat} {ts : List Nat} (h : p.cls[m]? = some (.h ts)) : rank p m = none := by simp [rank, h, clsRank]
theorem rank_fj {m : Nat} (h : p.cls[m]? = some .fj) : rank p m = none := by simp [rank, h, clsRank]
theorem rank_fx {m : Nat} (h : p.cls[m]? = some .fx) : rank p m = none := by simp [rank, h, clsRank]

theorem Reg.agreeF (R : Reg E L cf ops p K N ρ0 ρf σ) {D : Nat → Prop} (hD : Down ops D) {m r j x : Nat} {om : Oper} (hm : ops[m]? = some om) (hc : p.cls[m]? = some (.fa r j x)) (hr : ∀ e ∈ om.after, Region.binds .any e = true → D e.on)
    {o1 o2 : Oper} {kf : Fuse} (h1 : ops[j]? = some o1) (h2 : ops[x]? = some o2) (hf : fused om o1 o2 = some kf) (w1 : warOf p.war m = []) (w2 : warOf p.war j = []) :
    ∀ z, z = kf.x ∨ z = kf.y ∨ z = kf.ix ∨ z = kf.v → evalO ρf z = evalO (rho ops ρ0 ρf D) z := by
  obtain ⟨f1, f2, f3, f4, f5, f6, f7, f8, f9, f10, f11⟩ := fused_inv hf
  intro z hz
  refine evalO_congr fun t ht => ?_
  subst ht
  by_cases hw : ∃ (i : Nat) (o : Oper), ops[i]? = some o ∧ o.dst = some t
  · obtain ⟨i, oi, hoi, hdi⟩ := hw
    have hpre : i ∈ preOf p m := by
      by_cases hxy : Operand.tmp t = kf.x ∨ Operand.tmp t = kf.y
      · have : t ∈ opReads om := mem_opReads.2 (by rw [f1]; rcases hxy with e | e <;> simp [Op.operands, Call.operands, e])
        rcases R.read m i om oi t hm hoi hdi (List.mem_append_right _ this) with ⟨q1, _⟩ | ⟨_, q2⟩
        · rw [w1] at q1; simp [has] at q1
        · exact q2
      · have hiv : Operand.tmp t = kf.ix ∨ Operand.tmp t = kf.v := by
          rcases hz with e | e | e | e
          · exact absurd (.inl e) hxy
          · exact absurd (.inr e) hxy
          · exact .inl e
          · exact .inr e
        by_cases e1 : i = m
        · subst e1
          rw [hm] at hoi; simp at hoi; subst hoi
          rw [f2] at hdi; simp at hdi; subst hdi
          rcases hiv with e | e
          · exact absurd e.symm f9
          · exact absurd e.symm f10
        by_cases e2 : i = j
        · subst e2
          rw [h1] at hoi; simp at hoi; subst hoi
          rw [f4] at hdi; simp at hdi; subst hdi
          rcases hiv with e | e
          · have : kf.p ∈ opReads o1 := mem_opReads.2 (by rw [f3]; simp [Op.operands, e])
            rcases R.read i i o1 o1 kf.p h1 h1 f4 (List.mem_append_right _ this) with ⟨q1, _⟩ | ⟨_, q2⟩
            · rw [w2] at q1; simp [has] at q1
            · exact absurd (R.pre_lt i o1 i h1 q2) (Nat.lt_irrefl _)
          · exact absurd e.symm f11
        by_cases e3 : i = x
        · subst e3
          rw [h2] at hoi; simp at hoi; subst hoi
          rw [f6] at hdi; simp at hdi
        refine (R.win m om r j x hm hc i oi hoi e1 e2 e3).2 t hdi ?_
        rcases hiv with e | e
        · exact .inl (by simp only [readsAt, h1]; exact List.mem_append_right _ (mem_opReads.2 (by rw [f3]; simp [Op.operands, e])))
        · exact .inr (by simp only [readsAt, h2]; exact List.mem_append_right _ (mem_opReads.2 (by rw [f5]; simp [Op.operands, e])))
    exact (rho_in hoi hdi (R.pre_in hD m om i hm hr hpre)).symm
  · exact (R.rho_none fun i o ho hd => hw ⟨i, o, ho, hd⟩).symm

theorem step_closed (R : Reg E L cf ops p K N ρ0 ρf σ) (hcf : CallOk E L cf) {D : Nat → Prop} (hD : Down ops D) {a : Act} {k : Nat} {g : Ghost} {w : World} (h : Core E L ops p K N ρ0 ρf σ ds g0 w0 D a k g w) (hsh : ∀ i, Shut ops p D i)
    (hnp : ∀ (i : Nat) o ts d id, ops[i]? = some o → p.cls[i]? = some (.h ts) → o.dst = some d → idOf (ρf d) = some id → ¬ g0.pend id)
    {m : Nat} {om : Oper} (hm : ops[m]? = some om) (hn : ¬ D m) (hr : ∀ e ∈ om.after, Region.binds .any e = true → D e.on) :
    wpOp E.P ops Q m (J E L ops p K N ρ0 ρf σ ds g0 w0 (fun i => D i ∨ i = m)) a w := by
  have hag := R.agree hD hm hn hr
  obtain ⟨c, hc⟩ := R.cls m om hm
  have hshut : (∀ r j x, p.cls[m]? ≠ some (.fa r j x)) → ∀ i, Shut ops p (fun i => D i ∨ i = m) i := fun hnf i => Shut.more hm hnf (hsh i)
  have pendKeep : ∀ (g' : Ghost), (∀ id, g.pend id → g'.pend id) → ∀ (i : Nat) o ts d id, ops[i]? = some o → p.cls[i]? = some (.h ts) → o.dst = some d → idOf (ρf d) = some id → ¬ D i → i ≠ m → g'.pend id :=
    fun g' hg i o ts d id ho hci hd hid hnD _ => hg id (h.pend i o ts d id ho hci hd hid hnD)
  cases c with
  | w r =>
    have hk := h.now R hD hm hn hr (rank_w hc)
    subst hk
    obtain ⟨v, hact, hv⟩ := R.wF m om r hm hc
    rw [← actG_congr hag] at hact
    unfold actG at hact
    have hs := hshut (fun _ _ _ e => by rw [hc] at e; simp at e)
    split at hact
    · rename_i hg
      refine wpOp_yes hm (guardOk_sound h.tmps hg) (actA_sound hcf h.inv h.tmps hact fun v' w' g' hV hE hI => ?_)
      exact ⟨r + 1, g', w', h.push R hm (.inr ⟨rank_w hc, rfl⟩) (h.ext.trans hE) (fun _ _ q => q.mono hE) hI (fun d hd => by rw [hv d hd]; exact hV) (pendKeep g' hE.pend), .inl ⟨rfl, hs⟩⟩
    · rename_i hg
      simp only [Option.some.injEq, Prod.mk.injEq] at hact
      obtain ⟨rfl, hst⟩ := hact
      refine wpOp_no hm (guardOk_sound h.tmps hg) ?_
      exact ⟨r + 1, g, w, h.push R hm (.inr ⟨rank_w hc, rfl⟩) h.ext (fun _ _ q => q) (hst ▸ h.inv) (fun d hd => by rw [hv d hd]; exact V.undef) (pendKeep g fun _ q => q), .inl ⟨rfl, hs⟩⟩
    · simp at hact
  | q ts =>
    obtain ⟨v, hq, hv⟩ := R.qF m om ts k hm hc (h.tried R hD hm hn hr (.inl hc))
    rw [← quietG_congr hag] at hq
    unfold quietG at hq
    have hs := hshut (fun _ _ _ e => by rw [hc] at e; simp at e)
    split at hq
    · rename_i hg
      refine wpOp_yes hm (guardOk_sound h.tmps hg) (actA_sound hcf h.inv h.tmps (quietA_actA hq) fun v' w' g' hV hE hI => ?_)
      exact ⟨k, g', w', h.push R hm (.inl ⟨rank_q hc, rfl⟩) (h.ext.trans hE) (fun _ _ q => q.mono hE) hI (fun d hd => by rw [hv d hd]; exact hV) (pendKeep g' hE.pend), .inl ⟨rfl, hs⟩⟩
    · rename_i hg
      simp only [Option.some.injEq] at hq
      subst hq
      refine wpOp_no hm (guardOk_sound h.tmps hg) ?_
      exact ⟨k, g, w, h.push R hm (.inl ⟨rank_q hc, rfl⟩) h.ext (fun _ _ q => q) h.inv (fun d hd => by rw [hv d hd]; exact V.undef) (pendKeep g fun _ q => q), .inl ⟨rfl, hs⟩⟩
    · simp at hq
  | h ts =>
    obtain ⟨hg, d, cs, mk, id, hd, hh, hmk, hat⟩ := R.hF m om ts hm hc
    have hcs := hat k (h.tried R hD hm hn hr (.inr hc))
    rw [← hcells_congr (fun t ht => hag t (List.mem_append_right _ ht))] at hh
    obtain ⟨vs, e, mv, hrun, hvl, hV, hid⟩ := hcells_sound h.tmps hh
    have hpid : g.pend id := h.pend m om ts d id hm hc hd (by rw [hmk]; exact hid id) hn
    obtain ⟨p1, p2, p3⟩ := h.inv.pendN id hpid
    obtain ⟨e2, i2⟩ := h.inv.fill (L := L) (id := id) (q := fun i => g.pend i ∧ i ≠ id) (cs := cs) (vs := vs) (fun _ => Iff.rfl) e p1 p2 p3 (fun b hb => (h.inv.mpX id b hb).2.2 hpid) hcs hvl.full.1 hvl.full.2
    have e1 : Ext L g0 w0 (g.withPend fun i => g.pend i ∧ i ≠ id) w := h.ext.withPend fun i hi => ⟨h.ext.pend i hi, fun q => hnp m om ts d id hm hc hd (by rw [hmk]; exact hid id) (q ▸ hi)⟩
    refine wpOp_bare hm hg hrun ⟨k, _, _, h.push R hm (.inl ⟨rank_h hc, rfl⟩) (e1.trans e2) (fun _ _ q => q.withPend.mono e2) i2 (fun d' hd' => ?_) ?_, .inl ⟨rfl, hshut (fun _ _ _ e => by rw [hc] at e; simp at e)⟩⟩
    · rw [hd] at hd'; simp at hd'; subst hd'
      rw [hmk]
      exact hV _ _ id w.heap.size (by simp [Ghost.addB]) (shape_of_heap (by rw [heap_pushW]; exact if_pos rfl))
    · intro i o ts' d' id' ho hci hdi hidi hnD hne
      refine ⟨h.pend i o ts' d' id' ho hci hdi hidi hnD, fun q => hne ?_⟩
      subst q
      exact R.hInj i m o om ts' ts d' d id' ho hm hci hc hdi hd hidi (by rw [hmk]; exact hid id')
  | fa r j x =>
    have hk := h.now R hD hm hn hr (rank_fa hc)
    subst hk
    obtain ⟨o1, o2, kf, h1, h2, c1, c2, hf, w1, w2, w3, p1, p2, p3, v, hfu, hvd, hvp⟩ := R.fuse m om r j x hm hc
    have hag2 := R.agreeF hD hm hc hr h1 h2 hf w1 w2
    obtain ⟨f1, f2, f3, f4, f5, f6, f7, f8, f9, f10, f11⟩ := fused_inv hf
    have hVx := evalO_sound h.tmps kf.x
    have hVy := evalO_sound h.tmps kf.y
    have hVi := evalO_sound h.tmps kf.ix
    have hVv := evalO_sound h.tmps kf.v
    rw [← hag2 _ (.inl rfl)] at hVx
    rw [← hag2 _ (.inr (.inl rfl))] at hVy
    rw [← hag2 _ (.inr (.inr (.inl rfl)))] at hVi
    rw [← hag2 _ (.inr (.inr (.inr rfl)))] at hVv
    unfold fuseA at hfu
    split at hfu
    · rename_i elem hu
      split at hfu
      · rename_i hmu
        split at hfu
        · rename_i ti rows z n row hti hrows hz hnn hrow
          split at hfu
          · rename_i hcnd
            obtain ⟨q1, q2, q3, q4, q5, q6, q7⟩ := hcnd
            have hvl := cellsOf_sound hVv q4
            obtain ⟨t1, t2⟩ := toPVs_sound hvl hrow
            obtain ⟨b, cap, vz, e, w1', wv', g', a1, a2, a3, a4, a5, a6, a7, a8⟩ := appendRow_open (T := om.type) h.inv hu hti q6 q7 hVx hrows hVy hz q2 q5 (us := (a.eval kf.v).cells.toList) (by omega) q3 t2 hfu
            obtain ⟨kk, hix⟩ := natOfA_sound hVi hnn
            have hrun : (execOp a.eval om).run E.P w = .ok (.value (.slice (some ⟨b, 0, none⟩) (rows.length + 1) cap)) w1' := by
              obtain ⟨dst, op, type, pos, after, guard⟩ := om
              simp only at f1
              subst f1
              simp only [execOp, resolve, invoke, builtin, Sem.run_bind, Sem.run_pure, Result.andThen_ok]
              have : (#[kf.x, kf.y].map a.eval) = #[a.eval kf.x, a.eval kf.y] := by simp
              rw [this, a1]
              simp
            have hnj : ¬ (D j ∨ j = m) := fun q => q.elim (fun q => hn (R.pre_of hD h1 q p1)) (fun q => by subst q; exact absurd (R.pre_lt j o1 j h1 p1) (Nat.lt_irrefl _))
            have hnx : ¬ (D x ∨ x = m) := fun q => q.elim (fun q => hn (R.pre_of hD h2 q p3)) (fun q => by subst q; exact absurd (R.pre_lt x o2 x h2 p3) (Nat.lt_irrefl _))
            refine wpOp_bare hm f8.1 hrun ⟨r + 1, g', wv', h.push R hm (.inr ⟨rank_fa hc, rfl⟩) (h.ext.trans a3) (fun _ _ q => q.mono a3) a4 (fun d hd => ?_) (pendKeep g' a3.pend), .inr ?_⟩
            · rw [f2] at hd; simp at hd; subst hd; rw [hvd]; exact a2
            · refine ⟨m, om, r, j, x, o1, o2, kf, hm, hc, h1, h2, hf, .inr rfl, hnx, ?_, b, cap, rows.length, vz, e, a.eval kf.v, kk, elem, ti, hu, hti, hmu.2, ?_, ?_, ?_, ?_, ?_, a5, a6, ?_, a8, fun q => absurd q hnj⟩
              · intro i' o' r' j' x' ho' hc' hi' hne
                rcases hi' with hi' | hi'
                · exact .inl (hsh m i' o' r' j' x' ho' hc' hi' hne)
                · exact absurd hi' hne
              · rw [f2]; exact put_same (by rw [h.size]; exact R.dstN m om kf.d hm f2)
              · rw [eval_put_ne (fun t ht hdt => f9 (by rw [f2] at hdt; simp at hdt; rw [ht, hdt])), hix, q1]
              · rw [eval_put_ne (fun t ht hdt => f10 (by rw [f2] at hdt; simp at hdt; rw [ht, hdt]))]
              · rw [← Array.length_toList]; omega
              · exact VL.one hvl q4
              · have := a7; rw [← t1, q3] at this; exact this
          · simp at hfu
        · simp at hfu
      · simp at hfu
    · simp at hfu
  | fj =>
    obtain ⟨i, o, r, x, ho, hci⟩ := R.fjEx m om hm hc
    obtain ⟨o1, o2, kf, h1, h2, c1, c2, hf, w1, w2, w3, p1, p2, p3, _⟩ := R.fuse i o r m x ho hci
    have hDi := R.pre_in hD m om i hm hr p1
    have hDx := hsh m i o r m x ho hci hDi (fun e => by subst e; rw [hci] at hc; simp at hc)
    exact absurd (R.pre_of hD h2 hDx p2) hn
  | fx =>
    obtain ⟨i, o, r, j, ho, hci⟩ := R.fxEx m om hm hc
    obtain ⟨o1, o2, kf, h1, h2, c1, c2, hf, w1, w2, w3, p1, p2, p3, _⟩ := R.fuse i o r j m ho hci
    have hDi := R.pre_in hD m om i hm hr p3
    exact absurd (hsh m i o r j m ho hci hDi (fun e => by subst e; rw [hci] at hc; simp at hc)) hn

end
end Go.Tel
