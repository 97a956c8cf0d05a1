/-
  A region with a drawn order: one operation more while a row is open; all of them.
-/
import Derived.Test.YtcmeadgdojfhnaaGreatDoorEvF
set_option linter.unusedSimpArgs false
set_option linter.unusedVariables false
namespace Go.Tel
section
variable {rd : Option Nat} {E : Env} {L : Lim} {cf : CallF} {ops : Array Oper} {p : Plan} {K N : Nat} {ρ0 ρf : Nat → AV} {σ : Nat → Sto} {ds : List Deferred} {g0 : Ghost} {w0 : World} {Q : Exit → Act → World → Prop}
theorem Open.more {P : Program} {q : AV} {X : Prop} {kf : Fuse} {Dj : Prop} {a : Act} {g : Ghost} {w wv : World} {d : Option Tmp} {v : Value} (h : Open P q X kf Dj a g w wv)
    (hd : d ≠ some kf.d) (hp : d ≠ some kf.p) (hi : ∀ t, kf.ix = .tmp t → d ≠ some t) (hv : ∀ t, kf.v = .tmp t → d ≠ some t) : Open P q X kf Dj (a.put d v) g w wv := by
  obtain ⟨b, cap, len, vz, e, fz, xv, kk, elem, ti, h1, h2, h3, h4, h5, h6, h7, h8, h9, h10, h11, h12, h13⟩ := h
  refine ⟨b, cap, len, vz, e, fz, xv, kk, elem, ti, h1, h2, h3, ?_, ?_, ?_, h7, h8, h9, h10, h11, h12, fun q => ?_⟩
  all_goals grind[eval_put_ne]
theorem step_open (R : Reg E L cf ops p K N ρ0 ρf σ) {D : Nat → Prop} (hD : Down ops D) {a : Act} {k : Nat} {g : Ghost} {w wv : World} (h : Core E L ops p K N ρ0 ρf σ ds g0 w0 D a k g wv)
    {i r j x : Nat} {o o1 o2 : Oper} {kf : Fuse} (hi : ops[i]? = some o) (hci : p.cls[i]? = some (.fa r j x)) (h1 : ops[j]? = some o1) (h2 : ops[x]? = some o2) (hf : fused o o1 o2 = some kf) (hDi : D i) (hnx : ¬ D x) (hsh : Shut ops p D i)
    (hop : Open E.P (ρf kf.d) (muFa E L ops i j x = true) kf (D j) a g w wv)
    {m : Nat} {om : Oper} (hm : ops[m]? = some om) (hn : ¬ D m) (hr : ∀ e ∈ om.after, Region.binds .any e = true → D e.on) :
    wpOpIn (FW rd) 0 E.P ops Q m (J E L ops p K N ρ0 ρf σ ds g0 w0 (fun i => D i ∨ i = m)) a w := by
  obtain ⟨o1', o2', kf', h1', h2', c1, c2, hf', u1, u2, u3, p1, p2, p3, v0, hfu, hvd, hvp⟩ := R.fuse i o r j x hi hci
  rw [h1] at h1'; simp at h1'; subst h1'
  rw [h2] at h2'; simp at h2'; subst h2'
  rw [hf] at hf'; simp at hf'; subst hf'
  obtain ⟨f1, f2, f3, f4, f5, f6, f7, f8, f9, f10, f11⟩ := fused_inv hf
  have hmi : m ≠ i := fun e => hn (e ▸ hDi)
  have pendKeep : ∀ (i : Nat) o ts d id, ops[i]? = some o → p.cls[i]? = some (.h ts) → o.dst = some d → idOf (ρf d) = some id → ¬ D i → i ≠ m → g.pend id :=
    fun i o ts d id ho hci hd hid hnD _ => h.pend i o ts d id ho hci hd hid hnD
  have hxm : x ≠ m → ¬ (D x ∨ x = m) := fun e q => q.elim hnx e
  by_cases hmj : m = j
  · subst hmj
    rw [h1] at hm; simp at hm; subst hm
    obtain ⟨b, cap, len, vz, e, fz, xv, kk, elem, ti, k1, k2, k3, k4, k5, k6, k7, k8, k9, k10, k11, k12, k13⟩ := hop
    have hrun : (execOp a.eval o1).run E.P w = .ok (.value (.pointer (some ⟨b, len * ti.size, none⟩))) w := by simp[*,execOp,Instr.indexAt,asIntOf,run_underlying,run_sizeOf,addr_add]
    have hxj : x ≠ m := fun e => by grind
    have hs : Shut ops p (fun i => D i ∨ i = m) i := Shut.more h1 (fun _ _ _ e => by grind) hsh
    refine wpOp_bare h1 f8.2.1 hrun ⟨k, g, wv, h.push R h1 (.inl ⟨rank_fj c1, rfl⟩) h.ext (fun _ _ q => q) h.inv (fun d hd => ?_) pendKeep, .inr ?_⟩
    · rw [f4] at hd; simp at hd; subst hd; rw [hvp]; exact .junk
    · refine ⟨i, o, r, m, x, o1, o2, kf, hi, hci, h1, h2, hf, .inl hDi, hxm hxj, hs, b, cap, len, vz, e, fz, xv, kk, elem, ti, k1, k2, k3, ?_, ?_, ?_, k7, k8, k9, k10, k11, k12, fun _ => ?_⟩
      · grind[eval_put_ne]
      · rw [f4, eval_put_ne (fun t ht hdt => ?_)]
        · omega
        · simp at hdt
          subst hdt
          have : kf.p ∈ opReads o1 := mem_opReads.2 (by grind[Op.operands])
          rcases R.read m m o1 o1 kf.p h1 h1 f4 (List.mem_append_right _ this) with ⟨q1, _⟩ | ⟨_, q2⟩
          · grind[has]
          · exact absurd (R.pre_lt m o1 m h1 q2) (Nat.lt_irrefl _)
      · grind[eval_put_ne]
      · rw [f4]; exact put_same (by rw [h.size]; exact R.dstN m o1 kf.p h1 f4)
  by_cases hmx : m = x
  · subst hmx
    rw [h2] at hm; simp at hm; subst hm
    have hDj : D j := R.pre_in hD m o2 j h2 hr p2
    obtain ⟨b, cap, len, vz, e, fz, xv, kk, elem, ti, k1, k2, k3, k4, k5, k6, k7, k8, k9, k10, k11, k12, k13⟩ := hop
    have hpt := k13 hDj
    have hwb : w.heap[b]? = some (.cells ⟨vz⟩ e fz) := by grind[heap_putRowB]
    have hrun : (execOp a.eval o2).run E.P w = .ok .skip wv := by
      obtain ⟨dst, op, type, pos, after, guard⟩ := o2
      simp only at f5
      subst f5
      have hst := storeCells_runF (P := E.P) (b := b) (o := len * ti.size) (e := e) k11.2 xv.cells.toList 0 w vz k8 hwb (by grind)
      grind[putRowB_putRowB,putRowB_same,execOp,Instr.storeAt,Instr.sureAddr,storeVar,Sem.run_bind,Sem.run_pure,Result.andThen_ok,run_sizeOf]
    have hs : ∀ i', Shut ops p (fun i => D i ∨ i = m) i' := by
      intro i' q o' r' j' x' ho' hc' hi' hne
      rcases hi' with hi' | hi'
      · by_cases e : q = i
        · grind
        · exact .inl (hsh q o' r' j' x' ho' hc' hi' e)
      grind
    refine wpOp_yes h2 (by grind[Region.wanted]) ?_
    exact wpIn_of_skip hrun ⟨k, g, wv, h.push R h2 (.inl ⟨rank_fx c2, rfl⟩) h.ext (fun _ _ q => q) h.inv (fun d hd => by grind) pendKeep, .inl ⟨rfl, hs⟩⟩
  obtain ⟨hw1, hw2⟩ := R.win i o r j x hi hci m om hm hmi hmj hmx
  have hnpre : m ∉ preOf p i := fun q => hn (R.pre_of hD hi hDi q)
  have hsafe : safeOp ops p m = true := by
    rcases hw1 with q | q | q
    · grind
    · exact absurd (R.pre_in hD m om x hm hr q) hnx
    omega
  have dd : om.dst ≠ some kf.d := fun e => hmi (R.dst m i om o kf.d hm hi e f2)
  have dp : om.dst ≠ some kf.p := fun e => hmj (R.dst m j om o1 kf.p hm h1 e f4)
  have di : ∀ t, kf.ix = .tmp t → om.dst ≠ some t := fun t ht e => hnpre (hw2 t e (.inl (by grind[readsAt,mem_opReads,Op.operands])))
  have dv : ∀ t, kf.v = .tmp t → om.dst ≠ some t := fun t ht e => hnpre (hw2 t e (.inr (by grind[readsAt,mem_opReads,Op.operands])))
  have hag := R.agree hD hm hn hr
  have hDjm : Open E.P (ρf kf.d) (muFa E L ops i j x = true) kf (D j ∨ j = m) a g w wv := by grind
  unfold safeOp at hsafe
  split at hsafe
  · rename_i o' ts ho' hc
    rw [hm] at ho'; simp at ho'; subst ho'
    have hs : Shut ops p (fun i => D i ∨ i = m) i := Shut.more hm (fun _ _ _ e => by grind) hsh
    obtain ⟨v, hq, hv⟩ := R.qF m om ts k hm hc (h.tried R hD hm hn hr (.inl hc))
    rw [← quietG_congr hag] at hq
    have hkind : (∃ x, om.op = .nilCheck x) ∨ (∃ t x f, om.op = .fieldAddr t x f) ∨ (∃ x, om.op = .move x) := by grind
    unfold quietG at hq
    split at hq
    · rename_i hg
      obtain ⟨v', hrun, hV⟩ := safe_run hkind h.inv h.tmps hq
      refine wpOp_yes hm (guardOk_sound h.tmps hg) ?_
      exact wpIn_of_run (hrun w) ⟨k, g, wv, h.push R hm (.inl ⟨rank_q hc, rfl⟩) h.ext (fun _ _ q => q) h.inv (fun d hd => by grind) pendKeep,
        .inr ⟨i, o, r, j, x, o1, o2, kf, hi, hci, h1, h2, hf, .inl hDi, hxm (Ne.symm hmx), hs, hDjm.more dd dp di dv⟩⟩
    · rename_i hg
      simp only [Option.some.injEq] at hq
      subst hq
      refine wpOp_no hm (guardOk_sound h.tmps hg) ?_
      exact ⟨k, g, wv, h.push R hm (.inl ⟨rank_q hc, rfl⟩) h.ext (fun _ _ q => q) h.inv (fun d hd => by grind[V.undef]) pendKeep,
        .inr ⟨i, o, r, j, x, o1, o2, kf, hi, hci, h1, h2, hf, .inl hDi, hxm (Ne.symm hmx), hs, hDjm.more dd dp di dv⟩⟩
    grind
  · rename_i o' r' ho' hc
    rw [hm] at ho'; simp at ho'; subst ho'
    have hs : Shut ops p (fun i => D i ∨ i = m) i := Shut.more hm (fun _ _ _ e => by grind) hsh
    have hk := h.now R hD hm hn hr (rank_w hc)
    subst hk
    obtain ⟨v, hact, hv⟩ := R.wF m om r' hm hc
    rw [← actG_congr hag] at hact
    unfold actG at hact
    split at hact
    · rename_i hg
      split at hsafe
      · rename_i t y z e
        rw [actA_eq] at hact
        unfold actO at hact
        rw [e] at hact
        simp only at hact
        obtain ⟨dst, op, type, pos, after, guard⟩ := om
        simp only at e
        subst e
        simp only [opA] at hact
        split at hact
        · rename_i s1 hst
          simp only [Option.some.injEq, Prod.mk.injEq] at hact
          obtain ⟨rfl, rfl⟩ := hact
          obtain ⟨id, b', vs', e', ⟨off', hptr⟩, hb', he1, hi1, hany⟩ := storeA_any h.inv (evalO_sound h.tmps y) (evalO_sound h.tmps z) hst
          obtain ⟨b, cap, len, vz, e, fz, xv, kk, elem, ti, k1, k2, k3, k4, k5, k6, k7, k8, k9, k10, k11, k12, k13⟩ := hDjm
          have hbb : b' ≠ b := by
            intro q
            rcases k12 with ⟨tk, tl, k12, k12'⟩ | ⟨id0, off0, n0, sz0, hq0, hb0, hX⟩
            · exact h.inv.injBT id b' tk tl hb' k12 (by rw [k12', q])
            · subst q
              have hid := h.inv.injB id id0 b' hb' hb0
              refine R.mu i o r j x kf.d id0 off0 n0 sz0 hX hi hci f2 hq0 m _ r' t y z hm hc rfl id off' ?_ hid
              grind[evalO_congr,mem_opReads,Op.operands]
          have hrun := hany w (by grind[heap_putRowB])
          refine wpOp_yes hm (guardOk_sound h.tmps hg) ?_
          refine wpIn_of_skip (w' := putRowB w b' vs' e') (by grind[execOp,Sem.run_bind,Result.andThen_ok,Sem.run_pure]) ?_
          refine ⟨r' + 1, g, putRowB wv b' vs' e', h.push R hm (.inr ⟨rank_w hc, rfl⟩) (h.ext.trans he1) (fun _ _ q => q.mono he1) hi1 (fun d hd => by grind[V.undef]) pendKeep,
            .inr ⟨i, o, r, j, x, o1, o2, kf, hi, hci, h1, h2, hf, .inl hDi, hxm (Ne.symm hmx), hs, ?_⟩⟩
          refine Open.more ⟨b, cap, len, vz, e, fz, xv, kk, elem, ti, k1, k2, k3, k4, k5, k6, k7, k8, ?_, ?_, k11, k12, k13⟩ dd dp di dv
          all_goals grind[heap_putRowB,putRowB_comm]
        grind
      grind
    · rename_i hg
      simp only [Option.some.injEq, Prod.mk.injEq] at hact
      obtain ⟨rfl, hst⟩ := hact
      refine wpOp_no hm (guardOk_sound h.tmps hg) ?_
      exact ⟨r' + 1, g, wv, h.push R hm (.inr ⟨rank_w hc, rfl⟩) h.ext (fun _ _ q => q) (hst ▸ h.inv) (fun d hd => by grind[V.undef]) pendKeep,
        .inr ⟨i, o, r, j, x, o1, o2, kf, hi, hci, h1, h2, hf, .inl hDi, hxm (Ne.symm hmx), hs, hDjm.more dd dp di dv⟩⟩
    grind
  grind
theorem step_any (R : Reg E L cf ops p K N ρ0 ρf σ) (hcf : CallOk E L cf) {D : Nat → Prop} (hD : Down ops D) {a : Act} {w : World}
    (hnp : ∀ (i : Nat) o ts d id, ops[i]? = some o → p.cls[i]? = some (.h ts) → o.dst = some d → idOf (ρf d) = some id → ¬ g0.pend id) (h : J E L ops p K N ρ0 ρf σ ds g0 w0 D a w)
    {m : Nat} {om : Oper} (hm : ops[m]? = some om) (hn : ¬ D m) (hr : ∀ e ∈ om.after, Region.binds .any e = true → D e.on) :
    wpOpIn (FW rd) 0 E.P ops Q m (J E L ops p K N ρ0 ρf σ ds g0 w0 (fun i => D i ∨ i = m)) a w := by
  obtain ⟨k, g, wv, hcore, ⟨rfl, hs⟩ | ⟨i, o, r, j, x, o1, o2, kf, hi, hci, h1, h2, hf, hDi, hnx, hsh, hop⟩⟩ := h
  · grind[step_closed]
  · exact step_open R hD hcore hi hci h1 h2 hf hDi hnx hsh hop hm hn hr
def Listed (listed : Array Bool) (i : Nat) : Prop := listed.getD i false = true
theorem Listed.set {listed : Array Bool} {m : Nat} (hm : m < listed.size) : Listed (listed.setIfInBounds m true) = fun i => Listed listed i ∨ i = m := by
  funext i
  apply propext
  unfold Listed
  by_cases h : i = m
  all_goals simp[*,Ne.symm]
theorem count_lt {n m : Nat} {q q' : Nat → Bool} (hm : m < n) (h1 : ∀ i, q' i = true → q i = true) (h2 : q m = true) (h3 : q' m = false) : (List.range n).countP q' < (List.range n).countP q := by
  induction n with
  | zero => omega
  | succ n ih =>
    rw [List.range_succ, List.countP_append, List.countP_append]
    have hle : (List.range n).countP q' ≤ (List.range n).countP q := List.countP_mono_left fun i _ => h1 i
    grind
theorem wpAny_of (R : Reg E L cf ops p K N ρ0 ρf σ) (hcf : CallOk E L cf)
    (hnp : ∀ (i : Nat) o ts d id, ops[i]? = some o → p.cls[i]? = some (.h ts) → o.dst = some d → idOf (ρf d) = some id → ¬ g0.pend id)
    (hQ : ∀ D a w, (∀ i, i < ops.size → D i) → J E L ops p K N ρ0 ρf σ ds g0 w0 D a w → Q .normal a w) :
    ∀ (fuel : Nat) (listed : Array Bool) (a : Act) (w : World), listed.size = ops.size → Down ops (Listed listed) → J E L ops p K N ρ0 ρf σ ds g0 w0 (Listed listed) a w →
      (List.range ops.size).countP (fun i => !(listed.getD i false)) ≤ fuel → wpAnyIn (FW rd) 0 E.P .any ops Q fuel listed a w := by
  have done : ∀ (listed : Array Bool) (a : Act) (w : World), listed.size = ops.size → J E L ops p K N ρ0 ρf σ ds g0 w0 (Listed listed) a w → Region.ready .any ops listed = [] → Q .normal a w := by
    intro listed a w hsz hJ hrd
    refine hQ (Listed listed) a w ?_ hJ
    intro i
    induction i using Nat.strongRecOn with
    | ind i ih =>
      intro hi
      rcases Classical.em (Listed listed i) with x | x
      · exact x
      · exfalso
        have : i ∈ Region.ready .any ops listed := mem_ready.2 ⟨by grind[Listed], ops[i], by simp, fun e he hb => by
            have := R.edge i ops[i] e (by simp) he hb
            exact ih e.on this (by omega)⟩
        grind
  intro fuel
  induction fuel with
  | zero =>
    intro listed a w hsz hD hJ hc
    have hrd : Region.ready .any ops listed = [] := by
      apply List.eq_nil_iff_forall_not_mem.2
      grind[mem_ready,List.countP_eq_zero]
    exact ⟨hrd, done listed a w hsz hJ hrd⟩
  | succ fuel ih =>
    intro listed a w hsz hD hJ hc
    refine ⟨done listed a w hsz hJ, fun m hmr => ?_⟩
    obtain ⟨h0, om, hm, hall⟩ := mem_ready.1 hmr
    have hlt := lt_of_getElem? hm
    have hlt2 : m < listed.size := by omega
    have h0' : listed.getD m false = false := by grind
    have hn : ¬ Listed listed m := by grind[Listed]
    refine wpOpIn_mono (fun a' w' hJ' => ?_) (step_any R hcf hD hnp hJ hm hn hall)
    rw [← Listed.set hlt2] at hJ'
    refine ih _ a' w' (by grind) ?_ hJ' ?_
    · rw [Listed.set hlt2]
      intro i o e ho hi he hb
      rcases hi with hi | rfl
      · exact .inl (hD i o e ho hi he hb)
      · rw [hm] at ho; simp at ho; subst ho
        exact .inl (hall e he hb)
    · have := count_lt (n := ops.size) (m := m) (q := fun i => !(listed.getD i false)) (q' := fun i => !((listed.setIfInBounds m true).getD i false)) hlt (fun i hi => by
        have hne : i ≠ m := fun e => by simp_all
        simp_all[Ne.symm]) (by grind) (by simp[*])
      omega
theorem region_any (R : Reg E L cf ops p K N ρ0 ρf σ) (hcf : CallOk E L cf) (hmix : E.P.follows .mixedOrders = true) {a : Act} {w : World} {g g1 : Ghost} {id : Nat}
    (hnp : ∀ (i : Nat) o ts d id, ops[i]? = some o → p.cls[i]? = some (.h ts) → o.dst = some d → idOf (ρf d) = some id → ¬ g.pend id)
    (h1 : Ext L g w g1 w) (hI : Inv E g1 w (σ 0)) (hsz : a.tmps.size = N) (hρ : ∀ t, V g1 w (ρ0 t) (a.tmps.getD t undef))
    (hpd : ∀ (i : Nat) o ts d id, ops[i]? = some o → p.cls[i]? = some (.h ts) → o.dst = some d → idOf (ρf d) = some id → g1.pend id)
    (hQ : ∀ a' w' g', a'.tmps.size = N → a'.defers = a.defers → Ext L g w g' w' → Inv E g' w' (σ K) → (∀ t, V g' w' (ρf t) (a'.tmps.getD t undef)) → Q .normal a' w') :
    (Code.region id ops true).wpIn (FW rd) 0 E.P Q a w := by
  obtain ⟨e1, i1⟩ := hI.drew (L := L)
  refine wpIn_region_any hmix (wpAny_of (ds := a.defers) (g0 := g) (w0 := w) R hcf hnp ?_ ops.size _ a (drewW w) (by simp) ?_ ?_ ?_)
  · rintro D a' w' hall ⟨k, g', wv, hc, hwin⟩
    have hK : k = K := by
      have := hc.kK
      rcases Nat.lt_or_ge k K with x | x
      · obtain ⟨i, o, ho, hr⟩ := R.rkEx k x
        have := (hc.time i o k ho hr).1 (hall i (lt_of_getElem? ho))
        omega
      omega
    subst hK
    rcases hwin with ⟨rfl, _⟩ | ⟨i, o, r, j, x, o1, o2, kf, _, _, _, h2, _, _, hnx, _⟩
    · refine hQ a' w' g' hc.size hc.defers hc.ext hc.inv fun t => ?_
      have := hc.tmps t
      by_cases hw : ∃ (i : Nat) (o : Oper), ops[i]? = some o ∧ o.dst = some t
      · grind[rho_in]
      · rw [R.rho_none fun i o ho hd => hw ⟨i, o, ho, hd⟩] at this
        omega
    grind
  · intro i o e ho hi
    simp_all[lt_of_getElem?,Listed]
  · have hnone : ∀ i, ¬ Listed (Array.replicate ops.size false) i := fun i hi => by
      unfold Listed at hi
      by_cases hlt : i < ops.size
      all_goals simp_all
    refine ⟨0, g1, drewW w, ⟨Nat.zero_le _, fun i o r ho hr => ⟨fun q => absurd q (hnone i), fun q => by omega⟩, hsz, rfl, h1.trans e1, i1, fun t => ?_, fun i o ts d id ho hc hd hid _ => hpd i o ts d id ho hc hd hid⟩,
      .inl ⟨rfl, fun i i' o' r' j' x' ho' hc' hi' _ => absurd hi' (hnone i')⟩⟩
    rw [rho_out fun i o _ _ => hnone i]
    exact (hρ t).mono e1
  grind[List.countP_le_length]
end
end Go.Tel
/-
  A region with a drawn order: from the plan's check and the evaluation to what is asked.
-/
namespace Go.Tel
theorem has_iff {l : List Nat} {x : Nat} : has l x = true ↔ x ∈ l := by grind[has,Nat.eq_of_beq_eq_true,Nat.beq_refl]
theorem has_false {l : List Nat} {x : Nat} : has l x = false ↔ x ∉ l := by grind[has_iff]
theorem hasPair_iff {l : List (Nat × Nat)} {i k : Nat} (h : hasPair l i k = true) : (i, k) ∈ l := by grind[hasPair,Nat.eq_of_beq_eq_true]
theorem all_range {n : Nat} {f : Nat → Bool} (h : (List.range n).all f = true) {i : Nat} (hi : i < n) : f i = true := List.all_eq_true.1 h i (by grind)
theorem dstsAt_mem {ops : Array Oper} {i d : Nat} : d ∈ dstsAt ops i ↔ ∃ o, ops[i]? = some o ∧ o.dst = some d := by grind[dstsAt,dstAt]
theorem putA_some {st st' : St} {d : Option Nat} {v : AV} (h : putA st d v = some st') :
    st'.N = st.N ∧ st'.s = st.s ∧ (∀ e, d = some e → e < st.N ∧ st'.ρ e = v) ∧ ∀ t, d ≠ some t → st'.ρ t = st.ρ t := by
  unfold putA at h
  split at h
  · grind
  · rename_i e
    cases hb : Nat.blt e st.N with
    | false => grind
    | true =>
      simp [hb] at h; subst h
      refine ⟨rfl, rfl, fun e' he => ?_, fun t ht => ?_⟩
      · simp_all[upd]
      grind[Nat.eq_of_beq_eq_true,upd]
theorem hcells_id {E : Env} {ρ : Nat → AV} {o : Oper} {cs : List AV} {mk : Nat → AV} (h : hcells E ρ o = some (cs, mk)) : ∀ id, idOf (mk id) = some id := by
  obtain ⟨dst, op, type, pos, after, guard⟩ := o
  cases op with
  | alloc t =>
    simp only [hcells] at h
    split at h
    · cases hbz : E.bz t with
      | true => grind
      | false =>
      rw [hbz] at h
      simp only [cond_false, Option.some.injEq, Prod.mk.injEq] at h
      obtain ⟨_, rfl⟩ := h
      intro id; rfl
    grind
  | makeSlice t l c =>
    simp only [hcells] at h
    split at h
    · split at h
      · split at h
        · simp only [Option.some.injEq, Prod.mk.injEq] at h
          obtain ⟨_, rfl⟩ := h
          intro id; rfl
        grind
      grind
    grind
  | _ => grind[hcells]
def Agrees (ops : Array Oper) (p : Plan) (ρ0 ρf ρ : Nat → AV) (i : Nat) : Prop := ∀ t ∈ effR ops p i, ρ t = envAt p.war ρ0 ρf i t
theorem agrees_of {ops : Array Oper} {p : Plan} {ρ0 ρf : Nat → AV} {done : List Nat} {i : Nat} {rest : List Nat} {st : St} (ho : orderOk ops p done (i :: rest) = true) (h0 : ∀ t, t ∉ done → st.ρ t = ρ0 t)
    (hf : ∀ t, (∀ j ∈ i :: rest, t ∉ effW ops p j) → ρf t = st.ρ t) : Agrees ops p ρ0 ρf st.ρ i := by
  intro t ht
  grind[orderOk,envAt,has_iff]
theorem order_next {ops : Array Oper} {p : Plan} {done : List Nat} {i : Nat} {rest : List Nat} (ho : orderOk ops p done (i :: rest) = true) :
    orderOk ops p (effW ops p i ++ done) rest = true ∧ ∀ t ∈ effW ops p i, ∀ j ∈ rest, t ∉ effW ops p j := by grind[orderOk,has_iff]
theorem effR_plain {ops : Array Oper} {p : Plan} {i : Nat} {o : Oper} (hi : ops[i]? = some o) (hc : (∃ ts, p.cls[i]? = some (.q ts)) ∨ (∃ ts, p.cls[i]? = some (.h ts)) ∨ (∃ r, p.cls[i]? = some (.w r))) :
    effR ops p i = guardRead ops o ++ opReads o ∧ effW ops p i = dstsAt ops i := by grind[effR,effW,readsAt]
section
variable {rd : Option Nat} {E : Env} {L : Lim} {cf : CallF} {ops : Array Oper} {p : Plan} {ρ0 : Nat → AV}
structure RestF (E : Env) (L : Lim) (cf : CallF) (ops : Array Oper) (p : Plan) (ρ0 ρf : Nat → AV) (N : Nat) (σ : Nat → Sto) (i : Nat) : Prop where
  q : ∀ ts, p.cls[i]? = some (.q ts) → ∃ o k v, ops[i]? = some o ∧ quietG E L ops (envAt p.war ρ0 ρf i) (σ k) o = some v ∧ (∀ d, o.dst = some d → d < N ∧ ρf d = v) ∧ ∀ t ∈ ts, t = k ∨ pureAt ops i = true ∨ (i, t) ∈ p.chk
  w : ∀ r, p.cls[i]? = some (.w r) → ∃ o v, ops[i]? = some o ∧ actG E L cf ops (envAt p.war ρ0 ρf i) (σ r) o = some (v, σ (r + 1)) ∧ ∀ d, o.dst = some d → d < N ∧ ρf d = v
  fa : ∀ r j x, p.cls[i]? = some (.fa r j x) → ∃ o o1 o2 k v ρ, ops[i]? = some o ∧ ops[j]? = some o1 ∧ ops[x]? = some o2 ∧ fused o o1 o2 = some k ∧ fuseX E L ρ (σ r) k = some (v, σ (r + 1)) ∧ Agrees ops p ρ0 ρf ρ i ∧
    k.d < N ∧ k.p < N ∧ ρf k.d = v ∧ ρf k.p = .junk
  h : ∀ ts, p.cls[i]? ≠ some (.h ts)
def stoAt (acc : List Sto) (k : Nat) : Sto := (acc.reverse[k]?).getD ⟨[], []⟩
theorem stoAt_new {new acc : List Sto} {k : Nat} (h : acc.length = k + 1) : stoAt (new ++ acc) k = (acc.head?).getD ⟨[], []⟩ := by
  unfold stoAt
  rw [List.reverse_append, List.getElem?_append_left (by grind)]
  cases acc with
  | nil => rfl
  | cons s acc =>
    grind
set_option maxHeartbeats 400000 in
theorem rest_facts {K : Nat} {stf : St} {accf : List Sto} : ∀ (rest : List Nat) (done : List Nat) (st : St) (acc : List Sto) (k : Nat), orderOk ops p done rest = true → (∀ t, t ∉ done → st.ρ t = ρ0 t) →
    restOk ops p rest k = some K → acc.length = k + 1 → acc.head? = some st.s → restA E L cf ops p.cls rest st acc = some (stf, accf) →
    stf.N = st.N ∧ (∀ t, (∀ j ∈ rest, t ∉ effW ops p j) → stf.ρ t = st.ρ t) ∧ (∃ new, accf = new ++ acc) ∧ accf.length = K + 1 ∧ accf.head? = some stf.s ∧ k ≤ K ∧
    (∀ i ∈ rest, RestF E L cf ops p ρ0 stf.ρ st.N (stoAt accf) i) ∧ (∀ i ∈ rest, ∀ r, rank p i = some r → r < K) ∧ (∀ r, k ≤ r → r < K → ∃ i ∈ rest, rank p i = some r) := by
  intro rest
  induction rest with
  | nil =>
    intro done st acc k ho h0 hr hl hh h
    simp_all[restA,restOk]
  | cons i rest ih =>
    intro done st acc k ho h0 hr hl hh h
    obtain ⟨ho', hdis⟩ := order_next ho
    have tail : ∀ (st' : St) (acc' : List Sto) (k' : Nat), st'.N = st.N → (∀ t, t ∉ effW ops p i → st'.ρ t = st.ρ t) → restOk ops p rest k' = some K → acc'.length = k' + 1 → acc'.head? = some st'.s → (∃ n, acc' = n ++ acc) →
        restA E L cf ops p.cls rest st' acc' = some (stf, accf) → ((rank p i = none ∧ k' = k) ∨ (rank p i = some k ∧ k' = k + 1)) →
        ((∀ t, (∀ j ∈ rest, t ∉ effW ops p j) → stf.ρ t = st'.ρ t) → Agrees ops p ρ0 stf.ρ st.ρ i → stoAt accf k = st.s → stoAt accf k' = st'.s → RestF E L cf ops p ρ0 stf.ρ st.N (stoAt accf) i) →
        stf.N = st.N ∧ (∀ t, (∀ j ∈ i :: rest, t ∉ effW ops p j) → stf.ρ t = st.ρ t) ∧ (∃ new, accf = new ++ acc) ∧ accf.length = K + 1 ∧ accf.head? = some stf.s ∧ k ≤ K ∧
        (∀ j ∈ i :: rest, RestF E L cf ops p ρ0 stf.ρ st.N (stoAt accf) j) ∧ (∀ j ∈ i :: rest, ∀ r, rank p j = some r → r < K) ∧ (∀ r, k ≤ r → r < K → ∃ j ∈ i :: rest, rank p j = some r) := by
      intro st' acc' k' hN hfr hr' hl' hh' hacc hrun hrk hfact
      have h0' : ∀ t, t ∉ effW ops p i ++ done → st'.ρ t = ρ0 t := fun t ht => by grind
      obtain ⟨t1, t2, ⟨new, t3⟩, t4, t5, t6, t7, t8, t9⟩ := ih _ st' acc' k' ho' h0' hr' hl' hh' hrun
      have hframe : ∀ t, (∀ j ∈ i :: rest, t ∉ effW ops p j) → stf.ρ t = st.ρ t := fun t ht => by
        rw [t2 t (fun j hj => ht j (List.mem_cons_of_mem _ hj)), hfr t (ht i (List.mem_cons_self ..))]
      obtain ⟨n, rfl⟩ := hacc
      have hk1 : stoAt accf k = st.s := by grind[stoAt_new]
      have hk2 : stoAt accf k' = st'.s := by grind[stoAt_new]
      have hi := hfact t2 (agrees_of ho h0 hframe) hk1 hk2
      refine ⟨t1.trans hN, hframe, ⟨new ++ n, by rw [t3, List.append_assoc]⟩, t4, t5, by omega, fun j hj => ?_, fun j hj r hrr => ?_, fun r h1 h2 => ?_⟩
      all_goals grind
    simp only [restA] at h
    simp only [restOk] at hr
    split at h
    · rename_i o ts hoi hci
      rw [hci] at hr
      simp only at hr
      obtain ⟨r1, r2⟩ := effR_plain hoi (.inl ⟨ts, hci⟩)
      cases hall : (ts.all fun t => Nat.beq t k || pureAt ops i || hasPair p.chk i t) with
      | false => grind
      | true =>
        rw [hall] at hr
        simp only [cond_true] at hr
        split at h
        · rename_i v hq
          split at h
          · rename_i st' hp
            obtain ⟨a1, a2, a3, a4⟩ := putA_some hp
            refine tail st' acc k a1 (fun t ht => a4 t fun e => ht (by grind[dstsAt_mem])) hr hl (by grind) ⟨[], rfl⟩ h (.inl ⟨rank_q hci, rfl⟩) fun hfr hag hs1 hs2 => ?_
            refine ⟨fun ts' h' => ?_, fun r h' => by grind, fun r j x h' => by grind, fun ts' h' => by grind⟩
            rw [hci] at h'; simp at h'; subst h'
            refine ⟨o, k, v, hoi, ?_, fun d hd => ⟨(a3 d hd).1, ?_⟩, fun t ht => ?_⟩
            · rw [hs1, ← quietG_congr (fun t ht => hag t (by grind))]; omega
            · grind[dstsAt_mem]
            grind[Nat.eq_of_beq_eq_true,hasPair_iff]
          grind
        grind
    · rename_i o r hoi hci
      rw [hci] at hr
      simp only at hr
      obtain ⟨r1, r2⟩ := effR_plain hoi (.inr (.inr ⟨r, hci⟩))
      cases hrk : Nat.beq r k with
      | false => grind
      | true =>
        rw [hrk] at hr
        simp only [cond_true] at hr
        have hrk := Nat.eq_of_beq_eq_true hrk
        subst hrk
        split at h
        · rename_i v s' hact
          split at h
          · rename_i st' hp
            obtain ⟨a1, a2, a3, a4⟩ := putA_some hp
            refine tail st' (s' :: acc) (r + 1) a1 (fun t ht => a4 t fun e => ht (by grind[dstsAt_mem])) hr (by grind) (by grind) ⟨[s'], rfl⟩ h (.inr ⟨rank_w hci, rfl⟩) fun hfr hag hs1 hs2 => ?_
            refine ⟨fun ts' h' => by grind, fun r' h' => ?_, fun r j x h' => by grind, fun ts' h' => by grind⟩
            rw [hci] at h'; simp at h'; subst h'
            refine ⟨o, v, hoi, ?_, fun d hd => ⟨(a3 d hd).1, ?_⟩⟩
            · rw [hs1, hs2, a2, ← actG_congr (fun t ht => hag t (by grind))]; omega
            grind[dstsAt_mem]
          grind
        grind
    · rename_i o r j x hoi hci
      rw [hci] at hr
      simp only at hr
      cases hrk : Nat.beq r k with
      | false => grind
      | true =>
        rw [hrk] at hr
        simp only [cond_true] at hr
        have hrk := Nat.eq_of_beq_eq_true hrk
        subst hrk
        split at h
        · rename_i o1 o2 hoj hox
          split at h
          · rename_i kf hf
            obtain ⟨f1, f2, f3, f4, f5, f6, f7, f8, f9, f10, f11⟩ := fused_inv hf
            have hew : effW ops p i = [kf.d, kf.p] := by grind[effW,dstsAt,dstAt]
            split at h
            · rename_i v s' hfu
              split at h
              · rename_i st' hp
                unfold fuseSt at hp
                split at hp
                · rename_i st1 hp1
                  obtain ⟨a1, a2, a3, a4⟩ := putA_some hp1
                  obtain ⟨b1, b2, b3, b4⟩ := putA_some hp
                  obtain ⟨a31, a32⟩ := a3 kf.d rfl
                  obtain ⟨b31, b32⟩ := b3 kf.p rfl
                  refine tail st' (s' :: acc) (r + 1) (b1.trans a1) (fun t ht => ?_) hr (by grind) (by grind) ⟨[s'], rfl⟩ h (.inr ⟨rank_fa hci, rfl⟩) fun hfr hag hs1 hs2 => ?_
                  · rw [hew] at ht
                    simp at ht
                    rw [b4 t (fun e => ht.2 (by grind)), a4 t (fun e => ht.1 (by grind))]
                  · refine ⟨fun ts' h' => by grind, fun r' h' => by grind, fun r' j' x' h' => ?_, fun ts' h' => by grind⟩
                    rw [hci] at h'; simp at h'; obtain ⟨rfl, rfl, rfl⟩ := h'
                    refine ⟨o, o1, o2, kf, v, st.ρ, hoi, hoj, hox, hf, ?_, hag, a31, by grind, ?_, ?_⟩
                    · grind
                    · grind
                    grind
                grind
              grind
            grind
          grind
        grind
    · rename_i o hoi hci
      rw [hci] at hr
      exact tail st acc k rfl (fun _ _ => rfl) hr hl hh ⟨[], rfl⟩ h (.inl ⟨rank_fj hci, rfl⟩) fun _ _ _ _ =>
        ⟨fun ts' h' => by grind, fun r' h' => by grind, fun r' j' x' h' => by grind, fun ts' h' => by grind⟩
    · rename_i o hoi hci
      rw [hci] at hr
      exact tail st acc k rfl (fun _ _ => rfl) hr hl hh ⟨[], rfl⟩ h (.inl ⟨rank_fx hci, rfl⟩) fun _ _ _ _ =>
        ⟨fun ts' h' => by grind, fun r' h' => by grind, fun r' j' x' h' => by grind, fun ts' h' => by grind⟩
    grind
structure FirstF (E : Env) (L : Lim) (ops : Array Oper) (p : Plan) (ρ0 ρf : Nat → AV) (N lo hi : Nat) (i : Nat) : Prop where
  q : ∀ ts, p.cls[i]? = some (.q ts) → ∃ o s v, ops[i]? = some o ∧ quietG E L ops (envAt p.war ρ0 ρf i) s o = some v ∧ (∀ d, o.dst = some d → d < N ∧ ρf d = v) ∧ ∀ t ∈ ts, pureAt ops i = true ∨ (i, t) ∈ p.chk
  h : ∀ ts, p.cls[i]? = some (.h ts) → ∃ o cs mk id, ops[i]? = some o ∧ hcells E (envAt p.war ρ0 ρf i) o = some (cs, mk) ∧ (∀ d, o.dst = some d → d < N ∧ ρf d = mk id) ∧ lo ≤ id ∧ id < hi ∧ ∀ t ∈ ts, (i, t) ∈ p.chk
  n : rank p i = none ∧ p.cls[i]? ≠ some .fj ∧ p.cls[i]? ≠ some .fx
theorem first_facts {st1 : St} {rest : List Nat} {ρf : Nat → AV} (hfin : ∀ t, (∀ j ∈ rest, t ∉ effW ops p j) → ρf t = st1.ρ t) : ∀ (first : List Nat) (done : List Nat) (st : St), orderOk ops p done (first ++ rest) = true →
    (∀ t, t ∉ done → st.ρ t = ρ0 t) → firstOk ops p first = true → firstA E L ops p.cls first st = some st1 →
    ∃ hs done', st1.N = st.N ∧ (∀ t, (∀ j ∈ first, t ∉ effW ops p j) → st1.ρ t = st.ρ t) ∧ st1.s = { st.s with bs := st.s.bs ++ hs } ∧ orderOk ops p done' rest = true ∧ (∀ t, t ∉ done' → st1.ρ t = ρ0 t) ∧
    (∀ i ∈ first, FirstF E L ops p ρ0 ρf st.N st.s.bs.length (st.s.bs ++ hs).length i) ∧
    (∀ i j oi oj ts us d e id, i ∈ first → j ∈ first → ops[i]? = some oi → ops[j]? = some oj → p.cls[i]? = some (.h ts) → p.cls[j]? = some (.h us) → oi.dst = some d → oj.dst = some e → idOf (ρf d) = some id → idOf (ρf e) = some id → i = j) := by
  intro first
  induction first with
  | nil =>
    intro done st ho h0 hf h
    simp [firstA] at h
    subst h
    exact ⟨[], done, rfl, fun _ _ => rfl, by simp, ho, h0, by simp, by simp⟩
  | cons i first ih =>
    intro done st ho h0 hf h
    rw [List.cons_append] at ho
    obtain ⟨ho', hdis⟩ := order_next ho
    simp only [firstOk, Bool.and_eq_true] at hf
    simp only [firstA] at h
    split at h
    · rename_i o ts hoi hci
      have hf1 := hf.1
      rw [hci] at hf1
      simp only at hf1
      obtain ⟨r1, r2⟩ := effR_plain hoi (.inl ⟨ts, hci⟩)
      split at h
      · rename_i v hq
        split at h
        · rename_i st' hp
          obtain ⟨a1, a2, a3, a4⟩ := putA_some hp
          have hfr : ∀ t, t ∉ effW ops p i → st'.ρ t = st.ρ t := fun t ht => a4 t fun e => ht (by grind[dstsAt_mem])
          obtain ⟨hs, done', b1, b2, b3, b4, b5, b6, b7⟩ := ih _ st' ho' (fun t ht => by grind) hf.2 h
          have hframe : ∀ t, (∀ j ∈ i :: first, t ∉ effW ops p j) → st1.ρ t = st.ρ t := fun t ht => by
            rw [b2 t (fun j hj => ht j (List.mem_cons_of_mem _ hj)), hfr t (ht i (List.mem_cons_self ..))]
          have hfin' : ∀ t, (∀ j ∈ first ++ rest, t ∉ effW ops p j) → ρf t = st'.ρ t := fun t ht => by
            rw [hfin t (fun j hj => ht j (List.mem_append_right _ hj)), b2 t (fun j hj => ht j (List.mem_append_left _ hj))]
          have hag : Agrees ops p ρ0 ρf st.ρ i := agrees_of ho h0 fun t ht => by
            rw [hfin' t (fun j hj => ht j (List.mem_cons_of_mem _ hj)), hfr t (ht i (List.mem_cons_self ..))]
          rw [a2] at b3
          refine ⟨hs, done', b1.trans a1, hframe, b3, b4, b5, fun j hj => ?_, ?_⟩
          · rcases List.mem_cons.1 hj with rfl | hj
            · refine ⟨fun ts' h' => ?_, fun ts' h' => by grind, rank_q hci, by grind, by grind⟩
              rw [hci] at h'; simp at h'; subst h'
              refine ⟨o, st.s, v, hoi, ?_, fun d hd => ⟨(a3 d hd).1, ?_⟩, fun t ht => ?_⟩
              · rw [← quietG_congr (fun t ht => hag t (by grind))]; omega
              · grind[dstsAt_mem]
              grind[hasPair_iff]
            grind
          · intro i1 j1 oi oj ts1 us d e id hi1 hj1 e1 e2 e3 e4 e5 e6 e7 e8
            rcases List.mem_cons.1 hi1 with rfl | hi1
            · grind
            · rcases List.mem_cons.1 hj1 with rfl | hj1
              · grind
              · exact b7 i1 j1 oi oj ts1 us d e id hi1 hj1 e1 e2 e3 e4 e5 e6 e7 e8
        grind
      grind
    · rename_i o ts hoi hci
      have hf1 := hf.1
      rw [hci] at hf1
      simp only at hf1
      obtain ⟨r1, r2⟩ := effR_plain hoi (.inr (.inl ⟨ts, hci⟩))
      split at h
      · rename_i cs mk hq
        split at h
        · rename_i st' hp
          obtain ⟨a1, a2, a3, a4⟩ := putA_some hp
          have hfr : ∀ t, t ∉ effW ops p i → st'.ρ t = st.ρ t := fun t ht => a4 t fun e => ht (by grind[dstsAt_mem])
          obtain ⟨hs, done', b1, b2, b3, b4, b5, b6, b7⟩ := ih _ st' ho' (fun t ht => by grind) hf.2 h
          have hframe : ∀ t, (∀ j ∈ i :: first, t ∉ effW ops p j) → st1.ρ t = st.ρ t := fun t ht => by
            rw [b2 t (fun j hj => ht j (List.mem_cons_of_mem _ hj)), hfr t (ht i (List.mem_cons_self ..))]
          have hfin' : ∀ t, (∀ j ∈ first ++ rest, t ∉ effW ops p j) → ρf t = st'.ρ t := fun t ht => by
            rw [hfin t (fun j hj => ht j (List.mem_append_right _ hj)), b2 t (fun j hj => ht j (List.mem_append_left _ hj))]
          have hag : Agrees ops p ρ0 ρf st.ρ i := agrees_of ho h0 fun t ht => by
            rw [hfin' t (fun j hj => ht j (List.mem_cons_of_mem _ hj)), hfr t (ht i (List.mem_cons_self ..))]
          rw [a2] at b3
          have hval : ∀ d, o.dst = some d → d < st.N ∧ ρf d = mk st.s.bs.length := fun d hd => ⟨(a3 d hd).1, by grind[dstsAt_mem]⟩
          have hlen : st'.s.bs.length = st.s.bs.length + 1 := by grind
          have hother : ∀ j ∈ first, ∀ oj us e id, ops[j]? = some oj → p.cls[j]? = some (.h us) → oj.dst = some e → idOf (ρf e) = some id → st.s.bs.length + 1 ≤ id := by
            intro j hj oj us e id e2 e4 e6 e8
            obtain ⟨o', cs', mk', id', q1, q2, q3, q4, q5, q6⟩ := (b6 j hj).h us e4
            rw [e2] at q1; simp at q1; subst q1
            rw [(q3 e e6).2, hcells_id q2] at e8
            grind
          refine ⟨cs :: hs, done', b1.trans a1, hframe, by grind, b4, b5, fun j hj => ?_, ?_⟩
          · rcases List.mem_cons.1 hj with rfl | hj
            · refine ⟨fun ts' h' => by grind, fun ts' h' => ?_, rank_h hci, by grind, by grind⟩
              rw [hci] at h'; simp at h'; subst h'
              refine ⟨o, cs, mk, st.s.bs.length, hoi, ?_, hval, Nat.le_refl _, by simp, fun t ht => ?_⟩
              · rw [← hcells_congr (fun t ht => hag t (by grind))]; omega
              grind[hasPair_iff]
            · have := b6 j hj
              rw [a1, hlen] at this
              refine ⟨this.q, fun ts' h' => ?_, this.n⟩
              obtain ⟨o', cs', mk', id', q1, q2, q3, q4, q5, q6⟩ := this.h ts' h'
              exact ⟨o', cs', mk', id', q1, q2, q3, by omega, by grind, q6⟩
          · intro i1 j1 oi oj ts1 us d e id hi1 hj1 e1 e2 e3 e4 e5 e6 e7 e8
            rcases List.mem_cons.1 hi1 with rfl | hi1
            · rcases List.mem_cons.1 hj1 with rfl | hj1
              · rfl
              · rw [hoi] at e1; simp at e1; subst e1
                rw [(hval d e5).2, hcells_id hq] at e7
                grind
            · rcases List.mem_cons.1 hj1 with rfl | hj1
              · rw [hoi] at e2; simp at e2; subst e2
                rw [(hval e e6).2, hcells_id hq] at e8
                grind
              · exact b7 i1 j1 oi oj ts1 us d e id hi1 hj1 e1 e2 e3 e4 e5 e6 e7 e8
        grind
      grind
    grind
end
end Go.Tel
/-
  A region with a drawn order: the evaluation is sound.
-/
namespace Go.Tel
theorem has_app {l : List Nat} {x : Nat} (h : has l x = true) : x ∈ l := has_iff.1 h
theorem chkA_spec {E : Env} {L : Lim} {ops : Array Oper} {cls : List Cls} {war : List (List Nat)} {ρ0 ρf : Nat → AV} {σ : List Sto} : ∀ (chk : List (Nat × Nat)), chkA E L ops cls war ρ0 ρf σ chk = true → ∀ i k, (i, k) ∈ chk →
    (∀ o ts, ops[i]? = some o → cls[i]? = some (.q ts) → ∃ s v, σ[k]? = some s ∧ quietG E L ops (envAt war ρ0 ρf i) s o = some v ∧ ∀ d, o.dst = some d → ρf d = v) ∧
    (∀ o ts, ops[i]? = some o → cls[i]? = some (.h ts) → ∃ s cs mk d id, σ[k]? = some s ∧ hcells E (envAt war ρ0 ρf i) o = some (cs, mk) ∧ o.dst = some d ∧ idOf (ρf d) = some id ∧ s.bs[id]? = some cs) := by
  intro chk
  induction chk with
  | nil => simp
  | cons q chk ih =>
    obtain ⟨i', k'⟩ := q
    intro h i k hm
    simp only [chkA, Bool.and_eq_true] at h
    rcases List.mem_cons.1 hm with e | hm
    · simp at e
      obtain ⟨rfl, rfl⟩ := e
      have h := h.1
      split at h
      · grind[eqA_sound]
      · grind[eqAL_sound]
      grind
    grind
theorem Inv.reserveL {E : Env} {w : World} : ∀ (hs : List (List AV)) (g : Ghost) (s : Sto), Inv E g w s → ∃ q : Nat → Prop, (∀ id, g.pend id → q id) ∧ (∀ id, s.bs.length ≤ id → id < s.bs.length + hs.length → q id) ∧ Inv E (g.withPend q) w { s with bs := s.bs ++ hs } := by
  intro hs
  induction hs with
  | nil => intro g s h; exact ⟨g.pend, fun _ q => q, fun id a b => by grind, by simpa using h.withPend h.pendN (fun _ q => q) (fun id b hb => (h.mpX id b hb).2.2)⟩
  | cons cs hs ih =>
    intro g s h
    obtain ⟨q, h1, h2, h3⟩ := ih _ _ (h.reserve cs)
    refine ⟨q, fun id hq => h1 id (.inl hq), fun id a b => ?_, by grind[Ghost.withPend]⟩
    by_cases e : id = s.bs.length
    · exact h1 id (.inr e)
    grind
theorem stoAt_eq {acc : List Sto} {k : Nat} {s : Sto} (h : acc.reverse[k]? = some s) : stoAt acc k = s := by simp [stoAt, h]
theorem fuseA_congr {E : Env} {L : Lim} {ρ ρ' : Nat → AV} {s : Sto} {k : Fuse} (h : ∀ z, z = k.x ∨ z = k.y ∨ z = k.ix ∨ z = k.v → evalO ρ z = evalO ρ' z) : fuseA E L ρ' s k = fuseA E L ρ s k := by simp[*,fuseA]
theorem fuseM_congr {E : Env} {L : Lim} {ρ ρ' : Nat → AV} {s : Sto} {k : Fuse} (h : ∀ z, z = k.x ∨ z = k.y ∨ z = k.ix ∨ z = k.v → evalO ρ z = evalO ρ' z) : fuseM E L ρ' s k = fuseM E L ρ s k := by simp[*,fuseM]
theorem fuseX_congr {E : Env} {L : Lim} {ρ ρ' : Nat → AV} {s : Sto} {k : Fuse} (h : ∀ z, z = k.x ∨ z = k.y ∨ z = k.ix ∨ z = k.v → evalO ρ z = evalO ρ' z) : fuseX E L ρ' s k = fuseX E L ρ s k := by grind[fuseX,fuseA_congr,fuseM_congr]
theorem muRow_sound {ops : Array Oper} {p : Plan} {ρ0 ρf : Nat → AV} {id0 : Nat} : ∀ {l : List Nat}, muRow ops p ρ0 ρf id0 l = true → ∀ m ∈ l, ∀ om r' t y z, ops[m]? = some om → p.cls[m]? = some (.w r') → om.op = .store t y z →
    ∀ id off', evalO (envAt p.war ρ0 ρf m) y = .ptr id off' → id ≠ id0
  | [], _, m, hm => by grind
  | n :: l, h, m, hm => by
    intro om r' t y z hom hc hop id off' hy
    simp only [muRow, Bool.and_eq_true] at h
    rcases List.mem_cons.1 hm with rfl | hm
    · have h1 := h.1
      rw [hom, hc] at h1
      simp only [hop, hy, Bool.not_eq_true'] at h1
      intro e
      simp_all
    · exact muRow_sound h.2 m hm om r' t y z hom hc hop id off' hy
theorem muAll_sound {E : Env} {L : Lim} {ops : Array Oper} {p : Plan} {ρ0 ρf : Nat → AV} : ∀ {l : List Nat}, muAll E L ops p ρ0 ρf l = true → ∀ i ∈ l, ∀ o r j x d id0 off len sz, muFa E L ops i j x = true → ops[i]? = some o → p.cls[i]? = some (.fa r j x) → o.dst = some d → ρf d = .ref id0 off len sz →
    muRow ops p ρ0 ρf id0 p.rest = true
  | [], _, i, hi => by grind
  | n :: l, h, i, hi => by
    intro o r j x d id0 off len sz hX ho hc hd hr
    simp only [muAll, Bool.and_eq_true] at h
    rcases List.mem_cons.1 hi with rfl | hi
    · grind
    · exact muAll_sound h.2 i hi o r j x d id0 off len sz hX ho hc hd hr
theorem noMu_sound {E : Env} {L : Lim} {ops : Array Oper} {cls : List Cls} : ∀ {l : List Nat}, noMu E L ops cls l = true → ∀ i ∈ l, ∀ r j x, cls[i]? = some (.fa r j x) → muFa E L ops i j x = false
  | [], _, i, hi => by grind
  | n :: l, h, i, hi => by
    intro r j x hc
    simp only [noMu, Bool.and_eq_true] at h
    rcases List.mem_cons.1 hi with rfl | hi
    · grind
    · exact noMu_sound h.2 i hi r j x hc
theorem muChk_sound {E : Env} {L : Lim} {ops : Array Oper} {p : Plan} {ρ0 ρf : Nat → AV} (h : muChk E L ops p ρ0 ρf = true) : ∀ i ∈ p.rest, ∀ o r j x d id0 off len sz, muFa E L ops i j x = true → ops[i]? = some o → p.cls[i]? = some (.fa r j x) → o.dst = some d → ρf d = .ref id0 off len sz →
    muRow ops p ρ0 ρf id0 p.rest = true := by grind[muChk,noMu_sound,muAll_sound]
section
variable {rd : Option Nat} {E : Env} {L : Lim} {cf : CallF} {ops : Array Oper} {p : Plan}
theorem regA_sound (hcf : CallOk E L cf) (hmix : E.P.follows .mixedOrders = true) (hpl : planOk ops p = true) {g : Ghost} {w : World} {a : Act} {st st' : St} {Q : Exit → Act → World → Prop} {id : Nat} (hI : Inv E g w st.s) (hsz : a.tmps.size = st.N)
    (hρ : ∀ t, V g w (st.ρ t) (a.tmps.getD t undef)) (h : regA E L cf p ops st = some st')
    (hQ : ∀ a' w' g', a'.tmps.size = st'.N → a'.defers = a.defers → Ext L g w g' w' → Inv E g' w' st'.s → (∀ t, V g' w' (st'.ρ t) (a'.tmps.getD t undef)) → st'.N = st.N → Q .normal a' w') :
    (Code.region id ops true).wpIn (FW rd) 0 E.P Q a w := by
  unfold planOk at hpl
  simp only at hpl
  split at hpl
  · simp at hpl
  rename_i K hK
  simp only [Bool.and_eq_true] at hpl
  obtain ⟨⟨⟨⟨hlen, hmem⟩, hall⟩, hord⟩, hfirst⟩ := hpl
  unfold regA at h
  split at h
  · rename_i st1 h1
    split at h
    · rename_i stf accf h2
      cases hch : chkA E L ops p.cls p.war st.ρ stf.ρ accf.reverse p.chk with
      | false => rw [hch] at h; simp at h
      | true =>
        cases hmc : muChk E L ops p st.ρ stf.ρ with
        | false => rw [hch, hmc] at h; simp at h
        | true =>
        rw [hch, hmc] at h
        simp at h
        subst h
        obtain ⟨_, done', _, _, _, ho', h0', _, _⟩ := first_facts (E := E) (L := L) (ρ0 := st.ρ) (ρf := st1.ρ) (fun _ _ => rfl) p.first [] st hord (fun _ _ => rfl) hfirst h1
        obtain ⟨r1, r2, ⟨new, r3⟩, r4, r5, _, r7, r8, r9⟩ := rest_facts (ρ0 := st.ρ) p.rest done' st1 [st1.s] 0 ho' h0' hK rfl rfl h2
        obtain ⟨hs, _, f1, f2, f3, _, _, f6, f7⟩ := first_facts (E := E) (L := L) (ρ0 := st.ρ) (ρf := stf.ρ) r2 p.first [] st hord (fun _ _ => rfl) hfirst h1
        have hchk := chkA_spec p.chk hch
        have hin : ∀ (i : Nat) o, ops[i]? = some o → i ∈ p.first ∨ i ∈ p.rest := fun i o ho => List.mem_append.1 (has_app (all_range hmem (lt_of_getElem? ho)))
        have hst : ∀ (i : Nat) o, ops[i]? = some o → edgeOk ops p i = true ∧ plainOk ops p i = true ∧ dstOk ops ops.size i = true ∧ readOk ops p ops.size i = true ∧ rankOk p ops.size i = true ∧ timeOk p ops.size K i = true ∧ fuseOk ops p ops.size i = true := fun i o ho => by
          have := all_range hall (lt_of_getElem? ho)
          simp only [Bool.and_eq_true] at this
          obtain ⟨⟨⟨⟨⟨⟨a1, a2⟩, a3⟩, a4⟩, a5⟩, a6⟩, a7⟩ := this
          exact ⟨a1, a2, a3, a4, a5, a6, a7⟩
        have hN1 : st1.N = st.N := f1
        have hNf : stf.N = st.N := r1.trans f1
        have hσ0 : stoAt accf 0 = st1.s := by rw [r3, stoAt_new rfl]; rfl
        have hσK : stoAt accf K = stf.s := by
          have := stoAt_new (new := []) r4
          rw [List.nil_append] at this
          rw [this, r5]; rfl
        have R : Reg E L cf ops p K st.N st.ρ stf.ρ (stoAt accf) := {
          edge := fun i o e ho he hb => by
            have := (hst i o ho).1
            simp only [edgeOk, ho, Bool.and_eq_true] at this
            have := List.all_eq_true.1 this.1 e (by simpa using he)
            simpa [hb, Nat.blt_eq] using this
          pre := fun i o j ho hj => by
            have := (hst i o ho).1
            simp only [edgeOk, ho, Bool.and_eq_true] at this
            obtain ⟨e, he, h'⟩ := List.any_eq_true.1 (List.all_eq_true.1 this.2 j hj)
            simp only [Bool.and_eq_true, Bool.or_eq_true] at h'
            exact ⟨e, by simpa using he, h'.1, h'.2.imp Nat.eq_of_beq_eq_true has_app⟩
          cls := fun i o ho => by
            have := (hst i o ho).2.1
            unfold plainOk at this
            rw [ho] at this
            cases hc : p.cls[i]? with
            | none => rw [hc] at this; simp at this
            | some c => exact ⟨c, rfl⟩
          dst := fun i j oi oj d hi hj hdi hdj => by
            have := all_range (hst i oi hi).2.2.1 (lt_of_getElem? hj)
            simp only [Bool.or_eq_true] at this
            rcases this with q | q
            · exact (Nat.eq_of_beq_eq_true q).symm
            · have := List.all_eq_true.1 q d (dstsAt_mem.2 ⟨oj, hj, hdj⟩)
              simp only [Bool.not_eq_true'] at this
              exact absurd (dstsAt_mem.2 ⟨oi, hi, hdi⟩) (has_false.1 this)
          read := fun i j oi oj d hi hj hdj hd => by
            have := List.all_eq_true.1 (all_range (hst i oi hi).2.2.2.1 (lt_of_getElem? hj)) d (dstsAt_mem.2 ⟨oj, hj, hdj⟩)
            have hr : has (readsAt ops i) d = true := has_iff.2 (by simp only [readsAt, hi]; exact hd)
            rw [hr] at this
            simp only [Bool.not_true, Bool.false_or] at this
            cases hw : has (warOf p.war i) d with
            | true =>
              rw [hw] at this
              simp only [cond_true, Bool.or_eq_true] at this
              exact .inl ⟨rfl, this.imp Nat.eq_of_beq_eq_true has_app⟩
            | false =>
              rw [hw] at this
              exact .inr ⟨rfl, has_app (by simpa using this)⟩
          rk := fun i j oi oj r r' hi hj hri hrj hlt => by
            have := (hst i oi hi).2.2.2.2.1
            unfold rankOk at this
            rw [hri] at this
            have := all_range this (lt_of_getElem? hj)
            rw [hrj] at this
            simp only [Bool.or_eq_true, Bool.and_eq_true, Bool.not_eq_true'] at this
            rcases this with q | ⟨_, q⟩
            · have := Nat.eq_of_beq_eq_true q
              subst this
              rw [hri] at hrj; simp at hrj; omega
            · rcases q with q | q
              · have : Nat.blt r r' = true := by grind[Nat.blt_eq]
                rw [this] at q; simp at q
              · exact has_app q
          rkInj := fun i j oi oj r hi hj hri hrj => by
            have := (hst i oi hi).2.2.2.2.1
            unfold rankOk at this
            rw [hri] at this
            have := all_range this (lt_of_getElem? hj)
            rw [hrj] at this
            simp only [Bool.or_eq_true, Bool.and_eq_true, Bool.not_eq_true'] at this
            rcases this with q | ⟨q, _⟩
            · exact Nat.eq_of_beq_eq_true q
            · simp at q
          rkEx := fun k hk => by
            obtain ⟨i, hi, hr⟩ := r9 k (Nat.zero_le _) hk
            have hR := r7 i hi
            unfold rank at hr
            cases hc : p.cls[i]? with
            | none => rw [hc] at hr; simp at hr
            | some c =>
              rw [hc] at hr
              cases c with
              | w r => obtain ⟨o, _, ho, _⟩ := hR.w r hc; exact ⟨i, o, ho, by grind[rank]⟩
              | fa r j x => obtain ⟨o, _, _, _, _, _, ho, _⟩ := hR.fa r j x hc; exact ⟨i, o, ho, by grind[rank]⟩
              | _ => simp [clsRank] at hr
          rkLt := fun i o r ho hr => by
            rcases hin i o ho with hi | hi
            · have := (f6 i hi).n.1; rw [this] at hr; simp at hr
            · grind
          time := fun i o ts ho hc k hk hn => by
            have ht := (hst i o ho).2.2.2.2.2.1
            have key : ((List.range (K + 1)).all fun k => has ts k || (List.range ops.size).any fun j => match rank p j with
                | some r => (has (preOf p i) j && Nat.ble k r) || (has (preOf p j) i && Nat.blt r k)
                | none => false) = true := by
              unfold timeOk at ht
              rcases hc with hc | hc <;> rw [hc] at ht <;> simp only [Bool.and_eq_true] at ht <;> exact ht.1
            have := all_range key (show k < K + 1 by omega)
            rw [has_false.2 hn, Bool.false_or] at this
            obtain ⟨j, hj, h'⟩ := List.any_eq_true.1 this
            cases hr : rank p j with
            | none => rw [hr] at h'; simp at h'
            | some r =>
              rw [hr] at h'
              simp only [Bool.or_eq_true, Bool.and_eq_true] at h'
              have hjlt : j < ops.size := by simpa using hj
              refine ⟨j, ops[j], r, by simp [hjlt], hr, h'.imp (fun q => ⟨has_app q.1, by simpa [Nat.ble_eq] using q.2⟩) (fun q => ⟨has_app q.1, by simpa [Nat.blt_eq] using q.2⟩)⟩
          fuse := fun i o r j x ho hc => by
            have hfo := (hst i o ho).2.2.2.2.2.2
            unfold fuseOk at hfo
            rw [hc] at hfo
            simp only [Bool.and_eq_true] at hfo
            obtain ⟨⟨⟨⟨u1, u2⟩, u3⟩, u4⟩, u5⟩ := hfo
            rcases hin i o ho with hi | hi
            · have := (f6 i hi).n.1; rw [rank_fa hc] at this; simp at this
            obtain ⟨o', o1, o2, kf, v, ρ, g1, g2, g3, g4, g5, g6, g7, g8, g9, g10⟩ := (r7 i hi).fa r j x hc
            rw [ho] at g1; simp at g1; subst g1
            obtain ⟨q1, q2, q3, q4, q5, q6, q7, q8, q9, q10, q11⟩ := fused_inv g4
            have hcj : p.cls[j]? = some .fj ∧ p.cls[x]? = some .fx := by
              split at u1
              · rename_i e1 e2 _ _ _; exact ⟨e1, e2⟩
              · simp at u1
            have war : ∀ (i' : Nat) o', ops[i']? = some o' → (p.cls[i']? = some (.fa r j x) ∨ p.cls[i']? = some .fj ∨ p.cls[i']? = some .fx) → warOf p.war i' = [] := fun i' o' ho' hc' => by
              have := (hst i' o' ho').2.1
              unfold plainOk at this
              rw [ho'] at this
              rcases hc' with hc' | hc' | hc' <;> rw [hc'] at this <;> simp only [Bool.and_eq_true] at this <;> simpa using this.2
            have w1 := war i o ho (.inl hc)
            have w2 := war j o1 g2 (.inr (.inl hcj.1))
            have w3 := war x o2 g3 (.inr (.inr hcj.2))
            refine ⟨o1, o2, kf, g2, g3, hcj.1, hcj.2, g4, w1, w2, w3, has_app u2, has_app u3, has_app u4, v, ?_, g9, g10⟩
            rw [← g5]
            refine fuseX_congr fun z hz => evalO_congr fun t ht => ?_
            have hmem : t ∈ effR ops p i := by
              unfold effR
              rw [hc]
              simp only [List.mem_filter]
              have hd1 : dstsAt ops i ++ dstsAt ops j = [kf.d, kf.p] := by simp [dstsAt, dstAt, ho, g2, q2, q4]
              constructor
              · simp only [List.mem_append]
                rcases hz with e | e | e | e
                · exact .inl (.inl (by simp only [readsAt, ho]; exact List.mem_append_right _ (mem_opReads.2 (by grind[Op.operands,Call.operands]))))
                · exact .inl (.inl (by simp only [readsAt, ho]; exact List.mem_append_right _ (mem_opReads.2 (by grind[Op.operands,Call.operands]))))
                · exact .inl (.inr (by simp only [readsAt, g2]; exact List.mem_append_right _ (mem_opReads.2 (by grind[Op.operands]))))
                · grind[readsAt,mem_opReads,Op.operands]
              · rw [hd1]
                obtain ⟨z1, z2⟩ := fused_apart g4 z hz
                simp only [Bool.not_eq_true', has_false, List.mem_cons, List.not_mem_nil, or_false, not_or]
                exact ⟨fun e => z1 (by rw [ht, e]), fun e => z2 (by rw [ht, e])⟩
            have := g6 t hmem
            rw [this]
            unfold envAt
            rw [w1]
            rfl
          mu := fun i o r j x d id0 off len sz hX ho hc hd hq m om r' t y z hom hcm hop id off' hy => by
            have hir : i ∈ p.rest := by
              rcases hin i o ho with hi | hi
              · have := (f6 i hi).n.1; rw [rank_fa hc] at this; simp at this
              · omega
            have hmr : m ∈ p.rest := by
              rcases hin m om hom with hi | hi
              · have := (f6 m hi).n.1; rw [rank_w hcm] at this; simp at this
              · omega
            exact muRow_sound (muChk_sound hmc i hir o r j x d id0 off len sz hX ho hc hd hq) m hmr om r' t y z hom hcm hop id off' hy
          win := fun i o r j x ho hc m om hm h1 h2 h3 => by
            have hfo := (hst i o ho).2.2.2.2.2.2
            unfold fuseOk at hfo
            rw [hc] at hfo
            simp only [Bool.and_eq_true] at hfo
            have := all_range hfo.2 (lt_of_getElem? hm)
            have n1 : Nat.beq m i = false := by rw [Bool.eq_false_iff]; exact fun q => h1 (Nat.eq_of_beq_eq_true q)
            have n2 : Nat.beq m j = false := by rw [Bool.eq_false_iff]; exact fun q => h2 (Nat.eq_of_beq_eq_true q)
            have n3 : Nat.beq m x = false := by rw [Bool.eq_false_iff]; exact fun q => h3 (Nat.eq_of_beq_eq_true q)
            rw [n1, n2, n3] at this
            simp only [Bool.false_or, Bool.and_eq_true, Bool.or_eq_true] at this
            refine ⟨this.1.imp has_app (fun q => q.imp has_app (fun z => z)), fun d hd hr => ?_⟩
            have := List.all_eq_true.1 this.2 d (dstsAt_mem.2 ⟨om, hm, hd⟩)
            simp only [Bool.or_eq_true, Bool.not_eq_true', Bool.or_eq_false_iff] at this
            rcases this with q | q
            · rcases hr with hr | hr
              · exact absurd hr (has_false.1 q.1)
              · exact absurd hr (has_false.1 q.2)
            · exact has_app q
          fjEx := fun j oj hj hc => by
            have hfo := (hst j oj hj).2.2.2.2.2.2
            unfold fuseOk at hfo
            rw [hc] at hfo
            obtain ⟨m, hm, h'⟩ := List.any_eq_true.1 hfo
            have hlt : m < ops.size := by simpa using hm
            split at h'
            · rename_i r j' x' hcm
              have := Nat.eq_of_beq_eq_true h'
              subst this
              exact ⟨m, ops[m], r, x', by simp, hcm⟩
            · simp at h'
          fxEx := fun x ox hx hc => by
            have hfo := (hst x ox hx).2.2.2.2.2.2
            unfold fuseOk at hfo
            rw [hc] at hfo
            obtain ⟨m, hm, h'⟩ := List.any_eq_true.1 hfo
            have hlt : m < ops.size := by simpa using hm
            split at h'
            · rename_i r j' x' hcm
              have := Nat.eq_of_beq_eq_true h'
              subst this
              exact ⟨m, ops[m], r, j', by simp [hlt], hcm⟩
            · simp at h'
          out := fun t ht => by
            have hw : ∀ j, t ∉ effW ops p j := fun j hj => by
              unfold effW at hj
              have nd : ∀ q, t ∉ dstsAt ops q := fun q hq => by obtain ⟨o, h1, h2⟩ := dstsAt_mem.1 hq; exact ht q o h1 h2
              split at hj
              · simp at hj
              · simp at hj
              · rcases List.mem_append.1 hj with q | q <;> grind
              · exact nd _ hj
            rw [r2 t (fun j _ => hw j), f2 t (fun j _ => hw j)]
          dstN := fun i o d ho hd => by
            rcases hin i o ho with hi | hi
            · have hF := f6 i hi
              cases hc : p.cls[i]? with
              | none =>
                have := (hst i o ho).2.1
                unfold plainOk at this
                rw [ho, hc] at this
                simp at this
              | some c =>
                cases c with
                | q ts =>
                  obtain ⟨o', _, _, g1, _, g3, _⟩ := hF.q ts hc
                  rw [ho] at g1; simp at g1; subst g1
                  exact (g3 d hd).1
                | h ts =>
                  obtain ⟨o', _, _, _, g1, _, g3, _⟩ := hF.h ts hc
                  rw [ho] at g1; simp at g1; subst g1
                  exact (g3 d hd).1
                | w r => have := hF.n.1; rw [rank_w hc] at this; simp at this
                | fa r j x => have := hF.n.1; rw [rank_fa hc] at this; simp at this
                | fj => exact absurd hc hF.n.2.1
                | fx => exact absurd hc hF.n.2.2
            · have hF := r7 i hi
              have faD : ∀ (m : Nat) r j x, m < ops.size → p.cls[m]? = some (.fa r j x) → ∃ o o1 o2 k, ops[m]? = some o ∧ ops[j]? = some o1 ∧ ops[x]? = some o2 ∧ fused o o1 o2 = some k ∧ k.d < st.N ∧ k.p < st.N := fun m r j x hm hc => by
                rcases hin m ops[m] (by simp [hm]) with mi | mi
                · have := (f6 m mi).n.1; rw [rank_fa hc] at this; simp at this
                · obtain ⟨o', o1, o2, kf, v, ρ, g1, g2, g3, g4, g5, g6, g7, g8, g9, g10⟩ := (r7 m mi).fa r j x hc
                  exact ⟨o', o1, o2, kf, g1, g2, g3, g4, by rw [← hN1]; exact g7, by rw [← hN1]; exact g8⟩
              have hfo := (hst i o ho).2.2.2.2.2.2
              unfold fuseOk at hfo
              cases hc : p.cls[i]? with
              | none =>
                have := (hst i o ho).2.1
                unfold plainOk at this
                rw [ho, hc] at this
                simp at this
              | some c =>
                rw [hc] at hfo
                cases c with
                | q ts =>
                  obtain ⟨o', _, _, g1, _, g3, _⟩ := hF.q ts hc
                  rw [ho] at g1; simp at g1; subst g1
                  rw [← hN1]; exact (g3 d hd).1
                | h ts => exact absurd hc (hF.h ts)
                | w r =>
                  obtain ⟨o', _, g1, _, g3⟩ := hF.w r hc
                  rw [ho] at g1; simp at g1; subst g1
                  rw [← hN1]; exact (g3 d hd).1
                | fa r j x =>
                  obtain ⟨o', o1, o2, k, g1, g2, g3, g4, g5, g6⟩ := faD i r j x (lt_of_getElem? ho) hc
                  rw [ho] at g1; simp at g1; subst g1
                  have := (fused_inv g4).2.1
                  rw [hd] at this; simp at this; rw [this]; exact g5
                | fj =>
                  obtain ⟨m, hm, h'⟩ := List.any_eq_true.1 hfo
                  split at h'
                  · rename_i r j' x' hcm
                    have := Nat.eq_of_beq_eq_true h'
                    subst this
                    obtain ⟨o', o1, o2, k, g1, g2, g3, g4, g5, g6⟩ := faD m r j' x' (by simpa using hm) hcm
                    rw [ho] at g2; simp at g2; subst g2
                    have := (fused_inv g4).2.2.2.1
                    rw [hd] at this; simp at this; rw [this]; exact g6
                  · simp at h'
                | fx =>
                  obtain ⟨m, hm, h'⟩ := List.any_eq_true.1 hfo
                  split at h'
                  · rename_i r j' x' hcm
                    have := Nat.eq_of_beq_eq_true h'
                    subst this
                    obtain ⟨o', o1, o2, k, g1, g2, g3, g4, g5, g6⟩ := faD m r j' x' (by simpa using hm) hcm
                    rw [ho] at g3; simp at g3; subst g3
                    have := (fused_inv g4).2.2.2.2.2.1
                    rw [hd] at this; simp at this
                  · simp at h'
          wF := fun i o r ho hc => by
            rcases hin i o ho with hi | hi
            · have := (f6 i hi).n.1; rw [rank_w hc] at this; simp at this
            · obtain ⟨o', v, g1, g2, g3⟩ := (r7 i hi).w r hc
              rw [ho] at g1; simp at g1; subst g1
              exact ⟨v, g2, fun d hd => (g3 d hd).2⟩
          qF := fun i o ts k ho hc hk => by
            have pureCase : ∀ s v, pureAt ops i = true → quietG E L ops (envAt p.war st.ρ stf.ρ i) s o = some v → quietG E L ops (envAt p.war st.ρ stf.ρ i) (stoAt accf k) o = some v := fun s v hp hq => by
              have hp' : pureOp o = true := by simpa [pureAt, ho] using hp
              unfold quietG at hq ⊢
              split at hq
              · exact quietA_indep hp' hq
              · exact hq
              · simp at hq
            have chkCase : (i, k) ∈ p.chk → ∃ v, quietG E L ops (envAt p.war st.ρ stf.ρ i) (stoAt accf k) o = some v ∧ ∀ d, o.dst = some d → stf.ρ d = v := fun hm => by
              obtain ⟨s, v, g1, g2, g3⟩ := (hchk i k hm).1 o ts ho hc
              exact ⟨v, by rw [stoAt_eq g1]; exact g2, g3⟩
            rcases hin i o ho with hi | hi
            · obtain ⟨o', s, v, g1, g2, g3, g4⟩ := (f6 i hi).q ts hc
              rw [ho] at g1; simp at g1; subst g1
              rcases g4 k hk with q | q
              · exact ⟨v, pureCase s v q g2, fun d hd => (g3 d hd).2⟩
              · exact chkCase q
            · obtain ⟨o', kk, v, g1, g2, g3, g4⟩ := (r7 i hi).q ts hc
              rw [ho] at g1; simp at g1; subst g1
              rcases g4 k hk with q | q | q
              · subst q; exact ⟨v, g2, fun d hd => (g3 d hd).2⟩
              · exact ⟨v, pureCase _ v q g2, fun d hd => (g3 d hd).2⟩
              · exact chkCase q
          hF := fun i o ts ho hc => by
            have hpo := (hst i o ho).2.1
            unfold plainOk at hpo
            rw [ho, hc] at hpo
            simp only [Bool.and_eq_true] at hpo
            rcases hin i o ho with hi | hi
            · obtain ⟨o', cs, mk, id', g1, g2, g3, g4, g5, g6⟩ := (f6 i hi).h ts hc
              rw [ho] at g1; simp at g1; subst g1
              obtain ⟨d, hd⟩ := Option.isSome_iff_exists.1 hpo.2
              refine ⟨by simpa using hpo.1, d, cs, mk, id', hd, g2, (g3 d hd).2, fun k hk => ?_⟩
              obtain ⟨s, cs', mk', d', id'', e1, e2, e3, e4, e5⟩ := (hchk i k (g6 k hk)).2 o ts ho hc
              rw [hd] at e3; simp at e3; subst e3
              rw [(g3 d hd).2, hcells_id g2] at e4
              simp at e4; subst e4
              rw [g2] at e2; simp at e2
              rw [stoAt_eq e1, e5, e2.1]
            · exact absurd hc ((r7 i hi).h ts)
          hInj := fun i j oi oj ts us d e id' hi hj hci hcj hdi hdj h1' h2' => by
            rcases hin i oi hi with m1 | m1
            · rcases hin j oj hj with m2 | m2
              · exact f7 i j oi oj ts us d e id' m1 m2 hi hj hci hcj hdi hdj h1' h2'
              · exact absurd hcj ((r7 j m2).h us)
            · exact absurd hci ((r7 i m1).h ts) }
        have hid : ∀ (i : Nat) o ts d id, ops[i]? = some o → p.cls[i]? = some (.h ts) → o.dst = some d → idOf (stf.ρ d) = some id → st.s.bs.length ≤ id ∧ id < st.s.bs.length + hs.length := fun i o ts d id' ho hc hd hidd => by
          rcases hin i o ho with hi | hi
          · obtain ⟨o', cs, mk, id'', g1, g2, g3, g4, g5, g6⟩ := (f6 i hi).h ts hc
            rw [ho] at g1; simp at g1; subst g1
            rw [(g3 d hd).2, hcells_id g2] at hidd
            simp at hidd; subst hidd
            exact ⟨g4, by grind⟩
          · exact absurd hc ((r7 i hi).h ts)
        obtain ⟨q, hq1, hq2, hq3⟩ := Inv.reserveL hs g st.s hI
        refine region_any R hcf hmix (g := g) (g1 := g.withPend q) (fun i o ts d id' ho hc hd hidd hp => ?_) ((Ext.refl L g w).withPend hq1) ?_ hsz (fun t => (hρ t).withPend) (fun i o ts d id' ho hc hd hidd => ?_) (fun a' w' g' b1 b2 b3 b4 b5 => ?_)
        · have := (hI.pendN id' hp).1
          have := (hid i o ts d id' ho hc hd hidd).1
          omega
        · rw [hσ0, f3]; exact hq3
        · obtain ⟨x1, x2⟩ := hid i o ts d id' ho hc hd hidd
          exact hq2 id' x1 x2
        · grind
    · grind
  · grind
end
end Go.Tel
/-
  A region in the order of its text.
-/
namespace Go.Tel
structure Sim (E : Env) (g : Ghost) (w : World) (st : St) (a : Act) : Prop where
  inv : Inv E g w st.s
  size : a.tmps.size = st.N
  tmps : ∀ t, V g w (st.ρ t) (a.tmps.getD t undef)
theorem Sim.put {E : Env} {L : Lim} {g g' : Ghost} {w w' : World} {st st' : St} {a : Act} {s : Sto} {d : Option Nat} {v : AV} {u : Value} (h : Sim E g w st a) (hp : putA { st with s := s } d v = some st') (he : Ext L g w g' w') (hi : Inv E g' w' s) (hv : V g' w' v u) :
    Sim E g' w' st' (a.put d u) ∧ st'.N = st.N := by
  obtain ⟨a1, a2, a3, a4⟩ := putA_some hp
  refine ⟨⟨by grind, by rw [put_size, a1]; exact h.size, fun t => ?_⟩, a1⟩
  by_cases ht : d = some t
  · subst ht
    obtain ⟨b1, b2⟩ := a3 t rfl
    rw [put_same (by rw [h.size]; omega), b2]
    omega
  · rw [put_other ht, a4 t ht]
    exact (h.tmps t).mono he
theorem range'_cons (i n : Nat) : List.range' i (n + 1) = i :: List.range' (i + 1) n := by rfl
section
variable {rd : Option Nat} {E : Env} {L : Lim} {cf : CallF} {ops : Array Oper} {Q : Exit → Act → World → Prop}
theorem wpOps_yes {i : Nat} {rest : List Nat} {o : Oper} {a : Act} {w : World} (ho : ops[i]? = some o) (hw : Region.wanted o (yielded ops a.tmps) = true) (h : o.wpIn (FW rd) 0 E.P a w (wpOpsIn (FW rd) 0 E.P ops Q rest) Q) : wpOpsIn (FW rd) 0 E.P ops Q (i :: rest) a w := by grind[wpOpsIn]
theorem wpOps_no {i : Nat} {rest : List Nat} {o : Oper} {a : Act} {w : World} (ho : ops[i]? = some o) (hw : Region.wanted o (yielded ops a.tmps) = false) (h : wpOpsIn (FW rd) 0 E.P ops Q rest (a.put o.dst undef) w) : wpOpsIn (FW rd) 0 E.P ops Q (i :: rest) a w := by
  simp only [wpOpsIn, ho, hw, Bool.false_eq_true, if_false]
  exact ⟨fun _ _ => trivial, h⟩
theorem wpOps_run {i : Nat} {rest : List Nat} {o : Oper} {a : Act} {w w' : World} {v : Value} (ho : ops[i]? = some o) (hg : o.guard = none) (hr : (execOp a.eval o).run E.P w = .ok (.value v) w' ∨ ((execOp a.eval o).run E.P w = .ok .skip w' ∧ v = undef))
    (h : wpOpsIn (FW rd) 0 E.P ops Q rest (a.put o.dst v) w') : wpOpsIn (FW rd) 0 E.P ops Q (i :: rest) a w := by grind[wpOps_yes,Region.wanted,wpIn_of_run,wpIn_of_skip]
theorem fuse_seq {g : Ghost} {w : World} {st st' : St} {a : Act} {o o1 o2 : Oper} {k : Fuse} {v : AV} {s : Sto} {i : Nat} {rest : List Nat} (h : Sim E g w st a) (ho : ops[i]? = some o) (ho1 : ops[i + 1]? = some o1) (ho2 : ops[i + 2]? = some o2)
    (hf : fused o o1 o2 = some k) (hfu : fuseA E L st.ρ st.s k = some (v, s)) (hst : fuseSt st k v s = some st')
    (hk : ∀ a' w' g', Sim E g' w' st' a' → a'.defers = a.defers → Ext L g w g' w' → st'.N = st.N → wpOpsIn (FW rd) 0 E.P ops Q rest a' w') : wpOpsIn (FW rd) 0 E.P ops Q (i :: (i + 1) :: (i + 2) :: rest) a w := by
  obtain ⟨f1, f2, f3, f4, f5, f6, f7, f8, f9, f10, f11⟩ := fused_inv hf
  have hap := fused_apart hf
  have hVx := evalO_sound h.tmps k.x
  have hVy := evalO_sound h.tmps k.y
  have hVi := evalO_sound h.tmps k.ix
  have hVv := evalO_sound h.tmps k.v
  unfold fuseSt at hst
  split at hst
  · rename_i st1 hp1
    unfold fuseA at hfu
    split at hfu
    · rename_i elem hu
      split at hfu
      · rename_i hmu
        split at hfu
        · rename_i ti rows z n row hti hrows hz hnn hrow
          split at hfu
          · rename_i hcnd
            obtain ⟨q1, q2, q3, q4, q5, q6, q7⟩ := hcnd
            have hvl := cellsOf_sound hVv q4
            obtain ⟨t1, t2⟩ := toPVs_sound hvl hrow
            obtain ⟨b, cap, vz, e, fz, w1, wv, g', a1, a2, a3, a4, a5, a6, ⟨a7, a7z⟩, a8⟩ := appendRow_open (T := o.type) h.inv hu hti q6 q7 hVx hrows hVy hz q2 q5 (us := (a.eval k.v).cells.toList) (by omega) q3 t2 hfu
            obtain ⟨kk, hix⟩ := natOfA_sound hVi hnn
            obtain ⟨s1, n1⟩ := h.put hp1 a3 a4 a2
            have hp2 : putA { st1 with s := st1.s } (some k.p) .junk = some st' := hst
            obtain ⟨s2, n2⟩ := s1.put (u := .pointer (some ⟨b, rows.length * ti.size, none⟩)) hp2 (Ext.refl L g' wv) s1.inv .junk
            have hszv : (a.eval k.v).cells.size = ti.size := by grind
            have hd : k.d < a.tmps.size := by
              obtain ⟨_, _, x3, _⟩ := putA_some hp1
              rw [h.size]; grind
            have hpN : k.p < a.tmps.size := by
              obtain ⟨_, _, x3, _⟩ := putA_some hst
              have := (x3 k.p rfl).1
              rw [h.size]; omega
            have evalD : ∀ z, z = k.ix ∨ z = k.v → ∀ u u', ((a.put (some k.d) u).put (some k.p) u').eval z = a.eval z ∧ (a.put (some k.d) u).eval z = a.eval z := fun z hz u u' => by grind[eval_put_ne]
            have hw1 : w1.heap[b]? = some (.cells ⟨vz⟩ e fz) := by grind[heap_putRowB]
            refine wpOps_run ho f8.1 (v := .slice (some ⟨b, 0, none⟩) (rows.length + 1) cap) (w' := w1) (.inl ?_) ?_
            · simp[*,execOp,resolve,invoke,builtin]
            rw [f2]
            refine wpOps_run ho1 f8.2.1 (v := .pointer (some ⟨b, rows.length * ti.size, none⟩)) (w' := w1) (.inl ?_) ?_
            · have e1 : (a.put (some k.d) (.slice (some ⟨b, 0, none⟩) (rows.length + 1) cap)).eval (.tmp k.d) = .slice (some ⟨b, 0, none⟩) (rows.length + 1) cap := put_same hd
              have e2 := (evalD k.ix (.inl rfl) (.slice (some ⟨b, 0, none⟩) (rows.length + 1) cap) undef).2
              simp[*,execOp,Instr.indexAt,asIntOf,run_underlying,run_sizeOf,addr_add]
            rw [f4]
            refine wpOps_run ho2 f8.2.2 (v := undef) (w' := wv) (.inr ⟨?_, rfl⟩) ?_
            · have e1 : ((a.put (some k.d) (.slice (some ⟨b, 0, none⟩) (rows.length + 1) cap)).put (some k.p) (.pointer (some ⟨b, rows.length * ti.size, none⟩))).eval (.tmp k.p) = .pointer (some ⟨b, rows.length * ti.size, none⟩) := put_same (by grind[put_size])
              have e2 := (evalD k.v (.inr rfl) (.slice (some ⟨b, 0, none⟩) (rows.length + 1) cap) (.pointer (some ⟨b, rows.length * ti.size, none⟩))).1
              obtain ⟨dst, op, type, pos, after, guard⟩ := o2
              simp only at f5
              subst f5
              have hst := storeCells_runF (P := E.P) (b := b) (o := rows.length * ti.size) (e := e) a7z (a.eval k.v).cells.toList 0 w1 vz (VL.one hvl q4) hw1 (by omega)
              grind[putRowB_putRowB,putRowB_same,execOp,Instr.storeAt,Instr.sureAddr,storeVar,Sem.run_bind,Sem.run_pure,Result.andThen_ok,run_sizeOf]
            grind[Act.put]
          grind
        grind
      grind
    grind
  grind
theorem opsA_sound (hcf : CallOk E L cf) : ∀ (n i : Nat) (l : List Oper) (st st' : St) (a : Act) (w : World) (g : Ghost), l.length = n → l = ops.toList.drop i → Sim E g w st a → opsA E L cf ops l st = some st' →
    (∀ a' w' g', Sim E g' w' st' a' → a'.defers = a.defers → Ext L g w g' w' → st'.N = st.N → Q .normal a' w') → wpOpsIn (FW rd) 0 E.P ops Q (List.range' i l.length) a w := by
  intro n
  induction n using Nat.strongRecOn with
  | ind n ih =>
    intro i l st st' a w g hn hl hs h hQ
    cases l with
    | nil =>
      simp [opsA] at h
      subst h
      exact hQ a w g hs rfl (Ext.refl _ _ _) rfl
    | cons o rest =>
      have hget : ∀ (j : Nat) q, (o :: rest)[j]? = some q → ops[i + j]? = some q := fun j q hq => by grind
      have hdrop : ∀ j, (o :: rest).drop j = ops.toList.drop (i + j) := fun j => by rw [hl, List.drop_drop]
      have one : (match guardOk ops st.ρ o with
          | some true => match stepA E L cf st o with
            | some st => opsA E L cf ops rest st
            | none => none
          | some false => match putA st o.dst (.tuple []) with
            | some st => opsA E L cf ops rest st
            | none => none
          | none => none) = some st' → wpOpsIn (FW rd) 0 E.P ops Q (List.range' i (o :: rest).length) a w := by
        intro h
        rw [List.length_cons, range'_cons]
        have hlt : rest.length < n := by grind
        have hrest : rest = ops.toList.drop (i + 1) := by grind
        split at h
        · rename_i hg
          split at h
          · rename_i st1 hst
            unfold stepA at hst
            split at hst
            · rename_i v s hact
              refine wpOps_yes (hget 0 o rfl) (guardOk_sound hs.tmps hg) (actA_sound hcf hs.inv hs.tmps hact fun v' w' g' hV hE hI => ?_)
              obtain ⟨s1, n1⟩ := hs.put hst hE hI hV
              exact ih rest.length hlt (i + 1) rest st1 st' _ w' g' rfl hrest s1 h fun a' w'' g'' q1 q2 q3 q4 => hQ a' w'' g'' q1 (q2.trans (put_defers _ _ _)) (hE.trans q3) (q4.trans n1)
            grind
          grind
        · rename_i hg
          split at h
          · rename_i st1 hst
            refine wpOps_no (hget 0 o rfl) (guardOk_sound hs.tmps hg) ?_
            obtain ⟨s1, n1⟩ := hs.put (L := L) (s := st.s) hst (Ext.refl L g w) hs.inv V.undef
            grind[put_defers]
          grind
        grind
      unfold opsA at h
      simp only at h
      split at h
      · rename_i o1 o2 rest'
        split at h
        · rename_i k hf
          split at h
          · rename_i v s hfu
            split at h
            · rename_i st1 hst
              have hlt : rest'.length < n := by grind
              simp only [List.length_cons]
              rw [range'_cons, range'_cons, range'_cons]
              refine fuse_seq hs (hget 0 o rfl) (hget 1 o1 rfl) (hget 2 o2 rfl) hf hfu hst fun a' w' g' q1 q2 q3 q4 => ?_
              exact ih rest'.length hlt (i + 3) rest' st1 st' a' w' g' rfl (by grind) q1 h fun a'' w'' g'' p1 p2 p3 p4 => hQ a'' w'' g'' p1 (p2.trans q2) (q3.trans p3) (p4.trans q4)
            grind
          grind
        grind
      grind
end
end Go.Tel
