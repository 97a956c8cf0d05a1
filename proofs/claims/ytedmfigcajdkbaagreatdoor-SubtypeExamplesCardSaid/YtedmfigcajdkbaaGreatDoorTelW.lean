/-
  A region with a drawn order: one operation more while a row is open; all of them.
-/
import Derived.Test.YtedmfigcajdkbaaGreatDoorTelV
namespace Go.Tel

section
variable {E : Env} {L : Lim} {cf : CallF} {ops : Array Oper} {p : Plan} {K N : Nat} {ρ0 ρf : Nat → AV} {σ : Nat → Sto} {ds : List Deferred} {g0 : Ghost} {w0 : World} {Q : Exit → Act → World → Prop}

theorem Open.more {P : Program} {kf : Fuse} {Dj : Prop} {a : Act} {g : Ghost} {w wv : World} {d : Option Tmp} {v : Value} (h : Open P kf Dj a g w wv)
    (hd : d ≠ some kf.d) (hp : d ≠ some kf.p) (hi : ∀ t, kf.ix = .tmp t → d ≠ some t) (hv : ∀ t, kf.v = .tmp t → d ≠ some t) : Open P kf Dj (a.put d v) g w wv := by
  obtain ⟨b, cap, len, vz, e, xv, kk, elem, ti, h1, h2, h3, h4, h5, h6, h7, h8, h9, h10, h11, h12, h13⟩ := h
  refine ⟨b, cap, len, vz, e, xv, kk, elem, ti, h1, h2, h3, ?_, ?_, ?_, h7, h8, h9, h10, h11, h12, fun q => ?_⟩
  · rw [eval_put_ne (fun t ht => by simp at ht; subst ht; exact hd)]; exact h4
  · rw [eval_put_ne hi]; exact h5
  · rw [eval_put_ne hv]; exact h6
  · rw [eval_put_ne (fun t ht => by simp at ht; subst ht; exact hp)]; exact h13 q

theorem step_open (R : Reg E L cf ops p K N ρ0 ρf σ) {D : Nat → Prop} (hD : Down ops D) {a : Act} {k : Nat} {g : Ghost} {w wv : World} (h : Core E L ops p K N ρ0 ρf σ ds g0 w0 D a k g wv)
    {i r j x : Nat} {o o1 o2 : Oper} {kf : Fuse} (hi : ops[i]? = some o) (hci : p.cls[i]? = some (.fa r j x)) (h1 : ops[j]? = some o1) (h2 : ops[x]? = some o2) (hf : fused o o1 o2 = some kf) (hDi : D i) (hnx : ¬ D x) (hsh : Shut ops p D i)
    (hop : Open E.P kf (D j) a g w wv)
    {m : Nat} {om : Oper} (hm : ops[m]? = some om) (hn : ¬ D m) (hr : ∀ e ∈ om.after, Region.binds .any e = true → D e.on) :
    wpOp E.P ops Q m (J E L ops p K N ρ0 ρf σ ds g0 w0 (fun i => D i ∨ i = m)) a w := by
  obtain ⟨o1', o2', kf', h1', h2', c1, c2, hf', u1, u2, u3, p1, p2, p3, v0, hfu, hvd, hvp⟩ := R.fuse i o r j x hi hci
  rw [h1] at h1'; simp at h1'; subst h1'
  rw [h2] at h2'; simp at h2'; subst h2'
  rw [hf] at hf'; simp at hf'; subst hf'
  obtain ⟨f1, f2, f3, f4, f5, f6, f7, f8, f9, f10, f11⟩ := fused_inv hf
  have hmi : m ≠ i := fun e => hn (e ▸ hDi)
  have pendKeep : ∀ (i : Nat) o ts d id, ops[i]? = some o → p.cls[i]? = some (.h ts) → o.dst = some d → idOf (ρf d) = some id → ¬ D i → i ≠ m → g.pend id :=
    fun i o ts d id ho hci hd hid hnD _ => h.pend i o ts d id ho hci hd hid hnD
  have hxm : x ≠ m → ¬ (D x ∨ x = m) := fun e q => q.elim hnx e
  by_cases hmj : m = j
  · subst hmj
    rw [h1] at hm; simp at hm; subst hm
    obtain ⟨b, cap, len, vz, e, xv, kk, elem, ti, k1, k2, k3, k4, k5, k6, k7, k8, k9, k10, k11, k12, k13⟩ := hop
    have hrun : (execOp a.eval o1).run E.P w = .ok (.value (.pointer (some ⟨b, len * ti.size, none⟩))) w := by
      obtain ⟨dst, op, type, pos, after, guard⟩ := o1
      simp only at f3
      subst f3
      simp [execOp, Instr.indexAt, k4, k5, asIntOf, run_underlying k1, run_sizeOf k2, addr_add]
    have hxj : x ≠ m := fun e => by subst e; exact absurd (R.pre_lt x o1 x h1 p2) (Nat.lt_irrefl _)
    have hs : Shut ops p (fun i => D i ∨ i = m) i := Shut.more h1 (fun _ _ _ e => by rw [c1] at e; simp at e) hsh
    refine wpOp_bare h1 f8.2.1 hrun ⟨k, g, wv, h.push R h1 (.inl ⟨rank_fj c1, rfl⟩) h.ext (fun _ _ q => q) h.inv (fun d hd => ?_) pendKeep, .inr ?_⟩
    · rw [f4] at hd; simp at hd; subst hd; rw [hvp]; exact .junk
    · refine ⟨i, o, r, m, x, o1, o2, kf, hi, hci, h1, h2, hf, .inl hDi, hxm hxj, hs, b, cap, len, vz, e, xv, kk, elem, ti, k1, k2, k3, ?_, ?_, ?_, k7, k8, k9, k10, k11, k12, fun _ => ?_⟩
      · rw [f4, eval_put_ne (fun t ht hdt => f7 (by simp at ht hdt; rw [ht, hdt]))]; exact k4
      · rw [f4, eval_put_ne (fun t ht hdt => ?_)]
        · exact k5
        · simp at hdt
          subst hdt
          have : kf.p ∈ opReads o1 := mem_opReads.2 (by rw [f3]; simp [Op.operands, ht])
          rcases R.read m m o1 o1 kf.p h1 h1 f4 (List.mem_append_right _ this) with ⟨q1, _⟩ | ⟨_, q2⟩
          · rw [u2] at q1; simp [has] at q1
          · exact absurd (R.pre_lt m o1 m h1 q2) (Nat.lt_irrefl _)
      · rw [f4, eval_put_ne (fun t ht hdt => f11 (by simp at hdt; rw [ht, hdt]))]; exact k6
      · rw [f4]; exact put_same (by rw [h.size]; exact R.dstN m o1 kf.p h1 f4)
  by_cases hmx : m = x
  · subst hmx
    rw [h2] at hm; simp at hm; subst hm
    have hDj : D j := R.pre_in hD m o2 j h2 hr p2
    obtain ⟨b, cap, len, vz, e, xv, kk, elem, ti, k1, k2, k3, k4, k5, k6, k7, k8, k9, k10, k11, k12, k13⟩ := hop
    have hpt := k13 hDj
    have hwb : w.heap[b]? = some (.cells ⟨vz⟩ e (0, 0)) := by rw [k10, heap_putRowB, if_pos rfl, if_pos (lt_of_getElem? k9)]
    have hrun : (execOp a.eval o2).run E.P w = .ok .skip wv := by
      obtain ⟨dst, op, type, pos, after, guard⟩ := o2
      simp only at f5
      subst f5
      have hst := storeCells_run (P := E.P) (b := b) (o := len * ti.size) (e := e) xv.cells.toList 0 w vz k8 hwb (by rw [Array.length_toList, k7]; omega)
      have heq : putRowB w b (setV vz (len * ti.size) xv.cells.toList) e = wv := by rw [k10, putRowB_putRowB, putRowB_same k9]
      simp only [execOp, hpt, k6, Instr.storeAt, Instr.sureAddr, storeVar, Sem.run_bind, Sem.run_pure, Result.andThen_ok, k3, run_sizeOf k2, k7, ne_eq, not_true_eq_false, if_false]
      simp only [Nat.add_zero] at hst
      rw [hst, heq]
      rfl
    have hs : ∀ i', Shut ops p (fun i => D i ∨ i = m) i' := by
      intro i' q o' r' j' x' ho' hc' hi' hne
      rcases hi' with hi' | hi'
      · by_cases e : q = i
        · subst e
          rw [hci] at hc'; simp at hc'
          exact .inr hc'.2.2.symm
        · exact .inl (hsh q o' r' j' x' ho' hc' hi' e)
      · subst hi'; rw [c2] at hc'; simp at hc'
    refine wpOp_yes h2 (by simp [Region.wanted, f8.2.2]) ?_
    unfold Oper.wp
    rw [hrun]
    exact ⟨k, g, wv, h.push R h2 (.inl ⟨rank_fx c2, rfl⟩) h.ext (fun _ _ q => q) h.inv (fun d hd => by rw [f6] at hd; simp at hd) pendKeep, .inl ⟨rfl, hs⟩⟩
  -- another one
  obtain ⟨hw1, hw2⟩ := R.win i o r j x hi hci m om hm hmi hmj hmx
  have hnpre : m ∉ preOf p i := fun q => hn (R.pre_of hD hi hDi q)
  have hsafe : safeOp ops p m = true := by
    rcases hw1 with q | q | q
    · exact absurd q hnpre
    · exact absurd (R.pre_in hD m om x hm hr q) hnx
    · exact q
  have dd : om.dst ≠ some kf.d := fun e => hmi (R.dst m i om o kf.d hm hi e f2)
  have dp : om.dst ≠ some kf.p := fun e => hmj (R.dst m j om o1 kf.p hm h1 e f4)
  have di : ∀ t, kf.ix = .tmp t → om.dst ≠ some t := fun t ht e => hnpre (hw2 t e (.inl (by simp only [readsAt, h1]; exact List.mem_append_right _ (mem_opReads.2 (by rw [f3]; simp [Op.operands, ht])))))
  have dv : ∀ t, kf.v = .tmp t → om.dst ≠ some t := fun t ht e => hnpre (hw2 t e (.inr (by simp only [readsAt, h2]; exact List.mem_append_right _ (mem_opReads.2 (by rw [f5]; simp [Op.operands, ht])))))
  have hag := R.agree hD hm hn hr
  have hDjm : Open E.P kf (D j ∨ j = m) a g w wv := by
    have : (D j ∨ j = m) = D j := propext ⟨fun q => q.elim id (fun e => absurd e.symm hmj), .inl⟩
    rw [this]; exact hop
  unfold safeOp at hsafe
  split at hsafe
  · rename_i o' ts ho' hc
    rw [hm] at ho'; simp at ho'; subst ho'
    have hs : Shut ops p (fun i => D i ∨ i = m) i := Shut.more hm (fun _ _ _ e => by rw [hc] at e; simp at e) hsh
    obtain ⟨v, hq, hv⟩ := R.qF m om ts k hm hc (h.tried R hD hm hn hr (.inl hc))
    rw [← quietG_congr hag] at hq
    have hkind : (∃ x, om.op = .nilCheck x) ∨ (∃ t x f, om.op = .fieldAddr t x f) ∨ (∃ x, om.op = .move x) := by
      split at hsafe
      · rename_i y e; exact .inl ⟨y, e⟩
      · rename_i y z f e; exact .inr (.inl ⟨y, z, f, e⟩)
      · rename_i y e; exact .inr (.inr ⟨y, e⟩)
      · simp at hsafe
    unfold quietG at hq
    split at hq
    · rename_i hg
      obtain ⟨v', hrun, hV⟩ := safe_run hkind h.inv h.tmps hq
      refine wpOp_yes hm (guardOk_sound h.tmps hg) ?_
      unfold Oper.wp
      rw [hrun w]
      exact ⟨k, g, wv, h.push R hm (.inl ⟨rank_q hc, rfl⟩) h.ext (fun _ _ q => q) h.inv (fun d hd => by rw [hv d hd]; exact hV) pendKeep,
        .inr ⟨i, o, r, j, x, o1, o2, kf, hi, hci, h1, h2, hf, .inl hDi, hxm (Ne.symm hmx), hs, hDjm.more dd dp di dv⟩⟩
    · rename_i hg
      simp only [Option.some.injEq] at hq
      subst hq
      refine wpOp_no hm (guardOk_sound h.tmps hg) ?_
      exact ⟨k, g, wv, h.push R hm (.inl ⟨rank_q hc, rfl⟩) h.ext (fun _ _ q => q) h.inv (fun d hd => by rw [hv d hd]; exact V.undef) pendKeep,
        .inr ⟨i, o, r, j, x, o1, o2, kf, hi, hci, h1, h2, hf, .inl hDi, hxm (Ne.symm hmx), hs, hDjm.more dd dp di dv⟩⟩
    · simp at hq
  · rename_i o' r' ho' hc
    rw [hm] at ho'; simp at ho'; subst ho'
    have hs : Shut ops p (fun i => D i ∨ i = m) i := Shut.more hm (fun _ _ _ e => by rw [hc] at e; simp at e) hsh
    have hk := h.now R hD hm hn hr (rank_w hc)
    subst hk
    obtain ⟨v, hact, hv⟩ := R.wF m om r' hm hc
    rw [← actG_congr hag] at hact
    unfold actG at hact
    split at hact
    · rename_i hg
      split at hsafe
      · rename_i t y z e
        rw [actA_eq] at hact
        unfold actO at hact
        rw [e] at hact
        simp only at hact
        obtain ⟨dst, op, type, pos, after, guard⟩ := om
        simp only at e
        subst e
        simp only [opA] at hact
        split at hact
        · rename_i s1 hst
          simp only [Option.some.injEq, Prod.mk.injEq] at hact
          obtain ⟨rfl, rfl⟩ := hact
          obtain ⟨id, b', vs', e', hb', he1, hi1, hany⟩ := storeA_any h.inv (evalO_sound h.tmps y) (evalO_sound h.tmps z) hst
          obtain ⟨b, cap, len, vz, e, xv, kk, elem, ti, k1, k2, k3, k4, k5, k6, k7, k8, k9, k10, k11, ⟨tk, tl, k12, k12'⟩, k13⟩ := hDjm
          have hbb : b' ≠ b := fun q => h.inv.injBT id b' tk tl hb' k12 (by rw [k12', q])
          have hrun := hany w (by rw [k10, heap_putRowB, if_neg (Ne.symm hbb)])
          refine wpOp_yes hm (guardOk_sound h.tmps hg) ?_
          unfold Oper.wp
          simp only [execOp, Sem.run_bind, hrun, Result.andThen_ok, Sem.run_pure, Oper.upon]
          refine ⟨r' + 1, g, putRowB wv b' vs' e', h.push R hm (.inr ⟨rank_w hc, rfl⟩) (h.ext.trans he1) (fun _ _ q => q.mono he1) hi1 (fun d hd => by rw [hv d hd]; exact V.undef) pendKeep,
            .inr ⟨i, o, r, j, x, o1, o2, kf, hi, hci, h1, h2, hf, .inl hDi, hxm (Ne.symm hmx), hs, ?_⟩⟩
          refine Open.more ⟨b, cap, len, vz, e, xv, kk, elem, ti, k1, k2, k3, k4, k5, k6, k7, k8, ?_, ?_, k11, ⟨tk, tl, k12, k12'⟩, k13⟩ dd dp di dv
          · rw [heap_putRowB, if_neg hbb]; exact k9
          · rw [k10]; exact putRowB_comm (Ne.symm hbb)
        · simp at hact
      · simp at hsafe
    · rename_i hg
      simp only [Option.some.injEq, Prod.mk.injEq] at hact
      obtain ⟨rfl, hst⟩ := hact
      refine wpOp_no hm (guardOk_sound h.tmps hg) ?_
      exact ⟨r' + 1, g, wv, h.push R hm (.inr ⟨rank_w hc, rfl⟩) h.ext (fun _ _ q => q) (hst ▸ h.inv) (fun d hd => by rw [hv d hd]; exact V.undef) pendKeep,
        .inr ⟨i, o, r, j, x, o1, o2, kf, hi, hci, h1, h2, hf, .inl hDi, hxm (Ne.symm hmx), hs, hDjm.more dd dp di dv⟩⟩
    · simp at hact
  · simp at hsafe

theorem step_any (R : Reg E L cf ops p K N ρ0 ρf σ) (hcf : CallOk E L cf) {D : Nat → Prop} (hD : Down ops D) {a : Act} {w : World}
    (hnp : ∀ (i : Nat) o ts d id, ops[i]? = some o → p.cls[i]? = some (.h ts) → o.dst = some d → idOf (ρf d) = some id → ¬ g0.pend id) (h : J E L ops p K N ρ0 ρf σ ds g0 w0 D a w)
    {m : Nat} {om : Oper} (hm : ops[m]? = some om) (hn : ¬ D m) (hr : ∀ e ∈ om.after, Region.binds .any e = true → D e.on) :
    wpOp E.P ops Q m (J E L ops p K N ρ0 ρf σ ds g0 w0 (fun i => D i ∨ i = m)) a w := by
  obtain ⟨k, g, wv, hcore, ⟨rfl, hs⟩ | ⟨i, o, r, j, x, o1, o2, kf, hi, hci, h1, h2, hf, hDi, hnx, hsh, hop⟩⟩ := h
  · exact step_closed R hcf hD hcore hs hnp hm hn hr
  · exact step_open R hD hcore hi hci h1 h2 hf hDi hnx hsh hop hm hn hr

def Listed (listed : Array Bool) (i : Nat) : Prop := listed.getD i false = true

theorem Listed.set {listed : Array Bool} {m : Nat} (hm : m < listed.size) : Listed (listed.setIfInBounds m true) = fun i => Listed listed i ∨ i = m := by
  funext i
  apply propext
  unfold Listed
  by_cases h : i = m
  · subst h; simp [hm]
  · simp [h, Array.getElem?_setIfInBounds_ne (Ne.symm h)]

theorem count_lt {n m : Nat} {q q' : Nat → Bool} (hm : m < n) (h1 : ∀ i, q' i = true → q i = true) (h2 : q m = true) (h3 : q' m = false) : (List.range n).countP q' < (List.range n).countP q := by
  induction n with
  | zero => omega
  | succ n ih =>
    rw [List.range_succ, List.countP_append, List.countP_append]
    have hle : (List.range n).countP q' ≤ (List.range n).countP q := List.countP_mono_left fun i _ => h1 i
    by_cases e : m = n
    · subst e
      simp [h2, h3]
      omega
    · have := ih (by omega)
      have hx : [n].countP q' ≤ [n].countP q := List.countP_mono_left fun i _ => h1 i
      omega

theorem wpAny_of (R : Reg E L cf ops p K N ρ0 ρf σ) (hcf : CallOk E L cf)
    (hnp : ∀ (i : Nat) o ts d id, ops[i]? = some o → p.cls[i]? = some (.h ts) → o.dst = some d → idOf (ρf d) = some id → ¬ g0.pend id)
    (hQ : ∀ D a w, (∀ i, i < ops.size → D i) → J E L ops p K N ρ0 ρf σ ds g0 w0 D a w → Q .normal a w) :
    ∀ (fuel : Nat) (listed : Array Bool) (a : Act) (w : World), listed.size = ops.size → Down ops (Listed listed) → J E L ops p K N ρ0 ρf σ ds g0 w0 (Listed listed) a w →
      (List.range ops.size).countP (fun i => !(listed.getD i false)) ≤ fuel → wpAny E.P .any ops Q fuel listed a w := by
  have done : ∀ (listed : Array Bool) (a : Act) (w : World), listed.size = ops.size → J E L ops p K N ρ0 ρf σ ds g0 w0 (Listed listed) a w → Region.ready .any ops listed = [] → Q .normal a w := by
    intro listed a w hsz hJ hrd
    refine hQ (Listed listed) a w ?_ hJ
    intro i
    induction i using Nat.strongRecOn with
    | ind i ih =>
      intro hi
      rcases Classical.em (Listed listed i) with x | x
      · exact x
      · exfalso
        have : i ∈ Region.ready .any ops listed := mem_ready.2 ⟨by
          have h0 : listed.getD i false = false := by simpa [Listed] using x
          have hlt : i < listed.size := by omega
          simp only [Array.getD, hlt, dite_true] at h0 ⊢
          exact h0, ops[i], by simp [hi], fun e he hb => by
            have := R.edge i ops[i] e (by simp [hi]) he hb
            exact ih e.on this (by omega)⟩
        rw [hrd] at this
        simp at this
  intro fuel
  induction fuel with
  | zero =>
    intro listed a w hsz hD hJ hc
    have hrd : Region.ready .any ops listed = [] := by
      apply List.eq_nil_iff_forall_not_mem.2
      intro i hi
      obtain ⟨h0, o, ho, _⟩ := mem_ready.1 hi
      have hlt := lt_of_getElem? ho
      have hz := List.countP_eq_zero.1 (Nat.le_zero.1 hc) i (by simp [hlt])
      have hlt2 : i < listed.size := by omega
      simp only [Array.getD, hlt2, dite_true] at h0 hz
      rw [h0] at hz
      simp at hz
    exact ⟨hrd, done listed a w hsz hJ hrd⟩
  | succ fuel ih =>
    intro listed a w hsz hD hJ hc
    refine ⟨done listed a w hsz hJ, fun m hmr => ?_⟩
    obtain ⟨h0, om, hm, hall⟩ := mem_ready.1 hmr
    have hlt := lt_of_getElem? hm
    have hlt2 : m < listed.size := by omega
    have h0' : listed.getD m false = false := by
      simp only [Array.getD, hlt2, dite_true] at h0 ⊢
      exact h0
    have hn : ¬ Listed listed m := by simp [Listed, h0']
    refine wpOp_mono (fun a' w' hJ' => ?_) (step_any R hcf hD hnp hJ hm hn hall)
    rw [← Listed.set hlt2] at hJ'
    refine ih _ a' w' (by simpa using hsz) ?_ hJ' ?_
    · rw [Listed.set hlt2]
      intro i o e ho hi he hb
      rcases hi with hi | rfl
      · exact .inl (hD i o e ho hi he hb)
      · rw [hm] at ho; simp at ho; subst ho
        exact .inl (hall e he hb)
    · have := count_lt (n := ops.size) (m := m) (q := fun i => !(listed.getD i false)) (q' := fun i => !((listed.setIfInBounds m true).getD i false)) hlt (fun i hi => by
        have hne : i ≠ m := fun e => by subst e; simp [hlt2] at hi
        simpa [Array.getElem?_setIfInBounds_ne (Ne.symm hne)] using hi) (by simp [h0']) (by simp [hlt2])
      omega

/-- The whole region. -/
theorem region_any (R : Reg E L cf ops p K N ρ0 ρf σ) (hcf : CallOk E L cf) (hmix : E.P.follows .mixedOrders = true) {a : Act} {w : World} {g g1 : Ghost} {id : Nat}
    (hnp : ∀ (i : Nat) o ts d id, ops[i]? = some o → p.cls[i]? = some (.h ts) → o.dst = some d → idOf (ρf d) = some id → ¬ g.pend id)
    (h1 : Ext L g w g1 w) (hI : Inv E g1 w (σ 0)) (hsz : a.tmps.size = N) (hρ : ∀ t, V g1 w (ρ0 t) (a.tmps.getD t undef))
    (hpd : ∀ (i : Nat) o ts d id, ops[i]? = some o → p.cls[i]? = some (.h ts) → o.dst = some d → idOf (ρf d) = some id → g1.pend id)
    (hQ : ∀ a' w' g', a'.tmps.size = N → a'.defers = a.defers → Ext L g w g' w' → Inv E g' w' (σ K) → (∀ t, V g' w' (ρf t) (a'.tmps.getD t undef)) → Q .normal a' w') :
    (Code.region id ops true).wp E.P Q a w := by
  obtain ⟨e1, i1⟩ := hI.drew (L := L)
  refine wp_region_any hmix (wpAny_of (ds := a.defers) (g0 := g) (w0 := w) R hcf hnp ?_ ops.size _ a (drewW w) (by simp) ?_ ?_ ?_)
  · rintro D a' w' hall ⟨k, g', wv, hc, hwin⟩
    have hK : k = K := by
      have := hc.kK
      rcases Nat.lt_or_ge k K with x | x
      · obtain ⟨i, o, ho, hr⟩ := R.rkEx k x
        have := (hc.time i o k ho hr).1 (hall i (lt_of_getElem? ho))
        omega
      · omega
    subst hK
    rcases hwin with ⟨rfl, _⟩ | ⟨i, o, r, j, x, o1, o2, kf, _, _, _, h2, _, _, hnx, _⟩
    · refine hQ a' w' g' hc.size hc.defers hc.ext hc.inv fun t => ?_
      have := hc.tmps t
      by_cases hw : ∃ (i : Nat) (o : Oper), ops[i]? = some o ∧ o.dst = some t
      · obtain ⟨i, o, ho, hd⟩ := hw
        rw [rho_in ho hd (hall i (lt_of_getElem? ho))] at this
        exact this
      · rw [R.rho_none fun i o ho hd => hw ⟨i, o, ho, hd⟩] at this
        exact this
    · exact absurd (hall x (lt_of_getElem? h2)) hnx
  · intro i o e ho hi
    exfalso
    have hlt := lt_of_getElem? ho
    simp [Listed, hlt] at hi
  · have hnone : ∀ i, ¬ Listed (Array.replicate ops.size false) i := fun i hi => by
      unfold Listed at hi
      by_cases hlt : i < ops.size
      · simp [hlt] at hi
      · simp [hlt] at hi
    refine ⟨0, g1, drewW w, ⟨Nat.zero_le _, fun i o r ho hr => ⟨fun q => absurd q (hnone i), fun q => by omega⟩, hsz, rfl, h1.trans e1, i1, fun t => ?_, fun i o ts d id ho hc hd hid _ => hpd i o ts d id ho hc hd hid⟩,
      .inl ⟨rfl, fun i i' o' r' j' x' ho' hc' hi' _ => absurd hi' (hnone i')⟩⟩
    rw [rho_out fun i o _ _ => hnone i]
    exact (hρ t).mono e1
  · exact Nat.le_trans List.countP_le_length (by simp)

end
end Go.Tel
