/-
  A region with a drawn order: from the plan's check and the evaluation to what is asked.
-/
import Derived.Test.YtedmfigcajdkbaaGreatDoorTelW
namespace Go.Tel

theorem has_iff {l : List Nat} {x : Nat} : has l x = true ↔ x ∈ l := by
  unfold has
  rw [List.any_eq_true]
  constructor
  · rintro ⟨y, hy, h⟩; rw [← Nat.eq_of_beq_eq_true h]; exact hy
  · intro h; exact ⟨x, h, Nat.beq_refl x⟩
theorem has_false {l : List Nat} {x : Nat} : has l x = false ↔ x ∉ l := by
  rw [← has_iff]; simp
theorem hasPair_iff {l : List (Nat × Nat)} {i k : Nat} (h : hasPair l i k = true) : (i, k) ∈ l := by
  unfold hasPair at h
  obtain ⟨y, hy, h⟩ := List.any_eq_true.1 h
  simp only [Bool.and_eq_true] at h
  rw [← Nat.eq_of_beq_eq_true h.1, ← Nat.eq_of_beq_eq_true h.2]
  exact hy
theorem all_range {n : Nat} {f : Nat → Bool} (h : (List.range n).all f = true) {i : Nat} (hi : i < n) : f i = true := List.all_eq_true.1 h i (by simpa using hi)

theorem dstsAt_mem {ops : Array Oper} {i d : Nat} : d ∈ dstsAt ops i ↔ ∃ o, ops[i]? = some o ∧ o.dst = some d := by
  unfold dstsAt dstAt
  cases ho : ops[i]? with
  | none => simp
  | some o =>
    simp only
    cases hd : o.dst with
    | none => simp [hd]
    | some e => simp [hd]; exact eq_comm

theorem putA_some {st st' : St} {d : Option Nat} {v : AV} (h : putA st d v = some st') :
    st'.N = st.N ∧ st'.s = st.s ∧ (∀ e, d = some e → e < st.N ∧ st'.ρ e = v) ∧ ∀ t, d ≠ some t → st'.ρ t = st.ρ t := by
  unfold putA at h
  split at h
  · simp at h; subst h; exact ⟨rfl, rfl, by simp, fun _ _ => rfl⟩
  · rename_i e
    cases hb : Nat.blt e st.N with
    | false => simp [hb] at h
    | true =>
      simp [hb] at h; subst h
      refine ⟨rfl, rfl, fun e' he => ?_, fun t ht => ?_⟩
      · simp at he; subst he
        exact ⟨by simpa [Nat.blt_eq] using hb, by simp [upd]⟩
      · have : Nat.beq t e = false := by
          rw [Bool.eq_false_iff]; intro q; exact ht (by rw [Nat.eq_of_beq_eq_true q])
        simp [upd, this]

theorem hcells_id {E : Env} {ρ : Nat → AV} {o : Oper} {cs : List AV} {mk : Nat → AV} (h : hcells E ρ o = some (cs, mk)) : ∀ id, idOf (mk id) = some id := by
  obtain ⟨dst, op, type, pos, after, guard⟩ := o
  cases op with
  | alloc t =>
    simp only [hcells] at h
    split at h
    · simp only [Option.some.injEq, Prod.mk.injEq] at h
      obtain ⟨_, rfl⟩ := h
      intro id; rfl
    · simp at h
  | makeSlice t l c =>
    simp only [hcells] at h
    split at h
    · split at h
      · split at h
        · simp only [Option.some.injEq, Prod.mk.injEq] at h
          obtain ⟨_, rfl⟩ := h
          intro id; rfl
        · simp at h
      · simp at h
    · simp at h
  | _ => simp [hcells] at h

/-- What the temporaries are that an operation reads, of those that the plan puts there. -/
def Agrees (ops : Array Oper) (p : Plan) (ρ0 ρf ρ : Nat → AV) (i : Nat) : Prop := ∀ t ∈ effR ops p i, ρ t = envAt p.war ρ0 ρf i t

theorem agrees_of {ops : Array Oper} {p : Plan} {ρ0 ρf : Nat → AV} {done : List Nat} {i : Nat} {rest : List Nat} {st : St} (ho : orderOk ops p done (i :: rest) = true) (h0 : ∀ t, t ∉ done → st.ρ t = ρ0 t)
    (hf : ∀ t, (∀ j ∈ i :: rest, t ∉ effW ops p j) → ρf t = st.ρ t) : Agrees ops p ρ0 ρf st.ρ i := by
  intro t ht
  simp only [orderOk, Bool.and_eq_true] at ho
  have h1 := List.all_eq_true.1 ho.1.1 t ht
  unfold envAt
  cases hw : has (warOf p.war i) t with
  | true =>
    rw [hw] at h1
    simp only [cond_true, Bool.not_eq_true'] at h1 ⊢
    exact h0 t (has_false.1 h1)
  | false =>
    rw [hw] at h1
    simp only [cond_false, Bool.not_eq_true', List.any_eq_false] at h1 ⊢
    refine (hf t fun j hj => ?_).symm
    have := h1 j hj
    simpa [has_iff] using this

theorem order_next {ops : Array Oper} {p : Plan} {done : List Nat} {i : Nat} {rest : List Nat} (ho : orderOk ops p done (i :: rest) = true) :
    orderOk ops p (effW ops p i ++ done) rest = true ∧ ∀ t ∈ effW ops p i, ∀ j ∈ rest, t ∉ effW ops p j := by
  simp only [orderOk, Bool.and_eq_true] at ho
  refine ⟨ho.2, fun t ht j hj => ?_⟩
  have := List.all_eq_true.1 ho.1.2 t ht
  simp only [Bool.not_eq_true', List.any_eq_false] at this
  simpa [has_iff] using this j hj

theorem effR_plain {ops : Array Oper} {p : Plan} {i : Nat} {o : Oper} (hi : ops[i]? = some o) (hc : (∃ ts, p.cls[i]? = some (.q ts)) ∨ (∃ ts, p.cls[i]? = some (.h ts)) ∨ (∃ r, p.cls[i]? = some (.w r))) :
    effR ops p i = guardRead ops o ++ opReads o ∧ effW ops p i = dstsAt ops i := by
  rcases hc with ⟨ts, hc⟩ | ⟨ts, hc⟩ | ⟨r, hc⟩ <;> simp [effR, effW, hc, readsAt, hi]

section
variable {E : Env} {L : Lim} {cf : CallF} {ops : Array Oper} {p : Plan} {ρ0 : Nat → AV}

/-- The facts that an operation of the rest leaves. -/
structure RestF (E : Env) (L : Lim) (cf : CallF) (ops : Array Oper) (p : Plan) (ρ0 ρf : Nat → AV) (N : Nat) (σ : Nat → Sto) (i : Nat) : Prop where
  q : ∀ ts, p.cls[i]? = some (.q ts) → ∃ o k v, ops[i]? = some o ∧ quietG E L ops (envAt p.war ρ0 ρf i) (σ k) o = some v ∧ (∀ d, o.dst = some d → d < N ∧ ρf d = v) ∧ ∀ t ∈ ts, t = k ∨ pureAt ops i = true ∨ (i, t) ∈ p.chk
  w : ∀ r, p.cls[i]? = some (.w r) → ∃ o v, ops[i]? = some o ∧ actG E L cf ops (envAt p.war ρ0 ρf i) (σ r) o = some (v, σ (r + 1)) ∧ ∀ d, o.dst = some d → d < N ∧ ρf d = v
  fa : ∀ r j x, p.cls[i]? = some (.fa r j x) → ∃ o o1 o2 k v ρ, ops[i]? = some o ∧ ops[j]? = some o1 ∧ ops[x]? = some o2 ∧ fused o o1 o2 = some k ∧ fuseA E L ρ (σ r) k = some (v, σ (r + 1)) ∧ Agrees ops p ρ0 ρf ρ i ∧
    k.d < N ∧ k.p < N ∧ ρf k.d = v ∧ ρf k.p = .junk
  h : ∀ ts, p.cls[i]? ≠ some (.h ts)

def stoAt (acc : List Sto) (k : Nat) : Sto := (acc.reverse[k]?).getD ⟨[], []⟩

theorem stoAt_new {new acc : List Sto} {k : Nat} (h : acc.length = k + 1) : stoAt (new ++ acc) k = (acc.head?).getD ⟨[], []⟩ := by
  unfold stoAt
  rw [List.reverse_append, List.getElem?_append_left (by simp; omega)]
  cases acc with
  | nil => simp at h
  | cons s acc =>
    simp only [List.length_cons, Nat.add_right_cancel_iff] at h
    rw [List.reverse_cons, List.getElem?_append_right (by simp; omega)]
    simp [h]

theorem rest_facts {K : Nat} {stf : St} {accf : List Sto} : ∀ (rest : List Nat) (done : List Nat) (st : St) (acc : List Sto) (k : Nat), orderOk ops p done rest = true → (∀ t, t ∉ done → st.ρ t = ρ0 t) →
    restOk ops p rest k = some K → acc.length = k + 1 → acc.head? = some st.s → restA E L cf ops p.cls rest st acc = some (stf, accf) →
    stf.N = st.N ∧ (∀ t, (∀ j ∈ rest, t ∉ effW ops p j) → stf.ρ t = st.ρ t) ∧ (∃ new, accf = new ++ acc) ∧ accf.length = K + 1 ∧ accf.head? = some stf.s ∧ k ≤ K ∧
    (∀ i ∈ rest, RestF E L cf ops p ρ0 stf.ρ st.N (stoAt accf) i) ∧ (∀ i ∈ rest, ∀ r, rank p i = some r → r < K) ∧ (∀ r, k ≤ r → r < K → ∃ i ∈ rest, rank p i = some r) := by
  intro rest
  induction rest with
  | nil =>
    intro done st acc k ho h0 hr hl hh h
    simp [restA] at h
    obtain ⟨rfl, rfl⟩ := h
    simp [restOk] at hr
    subst hr
    exact ⟨rfl, fun _ _ => rfl, ⟨[], rfl⟩, hl, hh, Nat.le_refl _, by simp, by simp, fun r a b => by omega⟩
  | cons i rest ih =>
    intro done st acc k ho h0 hr hl hh h
    obtain ⟨ho', hdis⟩ := order_next ho
    -- what follows
    have tail : ∀ (st' : St) (acc' : List Sto) (k' : Nat), st'.N = st.N → (∀ t, t ∉ effW ops p i → st'.ρ t = st.ρ t) → restOk ops p rest k' = some K → acc'.length = k' + 1 → acc'.head? = some st'.s → (∃ n, acc' = n ++ acc) →
        restA E L cf ops p.cls rest st' acc' = some (stf, accf) → ((rank p i = none ∧ k' = k) ∨ (rank p i = some k ∧ k' = k + 1)) →
        ((∀ t, (∀ j ∈ rest, t ∉ effW ops p j) → stf.ρ t = st'.ρ t) → Agrees ops p ρ0 stf.ρ st.ρ i → stoAt accf k = st.s → stoAt accf k' = st'.s → RestF E L cf ops p ρ0 stf.ρ st.N (stoAt accf) i) →
        stf.N = st.N ∧ (∀ t, (∀ j ∈ i :: rest, t ∉ effW ops p j) → stf.ρ t = st.ρ t) ∧ (∃ new, accf = new ++ acc) ∧ accf.length = K + 1 ∧ accf.head? = some stf.s ∧ k ≤ K ∧
        (∀ j ∈ i :: rest, RestF E L cf ops p ρ0 stf.ρ st.N (stoAt accf) j) ∧ (∀ j ∈ i :: rest, ∀ r, rank p j = some r → r < K) ∧ (∀ r, k ≤ r → r < K → ∃ j ∈ i :: rest, rank p j = some r) := by
      intro st' acc' k' hN hfr hr' hl' hh' hacc hrun hrk hfact
      have h0' : ∀ t, t ∉ effW ops p i ++ done → st'.ρ t = ρ0 t := fun t ht => by
        rw [hfr t (fun q => ht (List.mem_append_left _ q))]
        exact h0 t (fun q => ht (List.mem_append_right _ q))
      obtain ⟨t1, t2, ⟨new, t3⟩, t4, t5, t6, t7, t8, t9⟩ := ih _ st' acc' k' ho' h0' hr' hl' hh' hrun
      have hframe : ∀ t, (∀ j ∈ i :: rest, t ∉ effW ops p j) → stf.ρ t = st.ρ t := fun t ht => by
        rw [t2 t (fun j hj => ht j (List.mem_cons_of_mem _ hj)), hfr t (ht i (List.mem_cons_self ..))]
      obtain ⟨n, rfl⟩ := hacc
      have hk1 : stoAt accf k = st.s := by rw [t3, ← List.append_assoc, stoAt_new hl, hh]; rfl
      have hk2 : stoAt accf k' = st'.s := by rw [t3, stoAt_new hl', hh']; rfl
      have hi := hfact t2 (agrees_of ho h0 hframe) hk1 hk2
      refine ⟨t1.trans hN, hframe, ⟨new ++ n, by rw [t3, List.append_assoc]⟩, t4, t5, by rcases hrk with ⟨_, e⟩ | ⟨_, e⟩ <;> omega, fun j hj => ?_, fun j hj r hrr => ?_, fun r h1 h2 => ?_⟩
      · rcases List.mem_cons.1 hj with rfl | hj
        · exact hi
        · have := t7 j hj; rw [hN] at this; exact this
      · rcases List.mem_cons.1 hj with rfl | hj
        · rcases hrk with ⟨e, _⟩ | ⟨e, e'⟩
          · rw [e] at hrr; simp at hrr
          · rw [e] at hrr; simp at hrr; omega
        · exact t8 j hj r hrr
      · rcases hrk with ⟨_, e⟩ | ⟨e, e'⟩
        · obtain ⟨j, hj, h3⟩ := t9 r (by omega) h2
          exact ⟨j, List.mem_cons_of_mem _ hj, h3⟩
        · by_cases hrk : r = k
          · exact ⟨i, List.mem_cons_self .., by rw [hrk]; exact e⟩
          · obtain ⟨j, hj, h3⟩ := t9 r (by omega) h2
            exact ⟨j, List.mem_cons_of_mem _ hj, h3⟩
    simp only [restA] at h
    simp only [restOk] at hr
    split at h
    · rename_i o ts hoi hci
      rw [hci] at hr
      simp only at hr
      obtain ⟨r1, r2⟩ := effR_plain hoi (.inl ⟨ts, hci⟩)
      cases hall : (ts.all fun t => Nat.beq t k || pureAt ops i || hasPair p.chk i t) with
      | false => rw [hall] at hr; simp at hr
      | true =>
        rw [hall] at hr
        simp only [cond_true] at hr
        split at h
        · rename_i v hq
          split at h
          · rename_i st' hp
            obtain ⟨a1, a2, a3, a4⟩ := putA_some hp
            refine tail st' acc k a1 (fun t ht => a4 t fun e => ht (by rw [r2]; exact dstsAt_mem.2 ⟨o, hoi, e⟩)) hr hl (by rw [a2]; exact hh) ⟨[], rfl⟩ h (.inl ⟨rank_q hci, rfl⟩) fun hfr hag hs1 hs2 => ?_
            refine ⟨fun ts' h' => ?_, fun r h' => by rw [hci] at h'; simp at h', fun r j x h' => by rw [hci] at h'; simp at h', fun ts' h' => by rw [hci] at h'; simp at h'⟩
            rw [hci] at h'; simp at h'; subst h'
            refine ⟨o, k, v, hoi, ?_, fun d hd => ⟨(a3 d hd).1, ?_⟩, fun t ht => ?_⟩
            · rw [hs1, ← quietG_congr (fun t ht => hag t (by rw [r1]; exact ht))]; exact hq
            · rw [hfr d (fun j hj => hdis d (by rw [r2]; exact dstsAt_mem.2 ⟨o, hoi, hd⟩) j hj)]; exact (a3 d hd).2
            · have := List.all_eq_true.1 hall t ht
              simp only [Bool.or_eq_true] at this
              rcases this with (q | q) | q
              · exact .inl (Nat.eq_of_beq_eq_true q)
              · exact .inr (.inl q)
              · exact .inr (.inr (hasPair_iff q))
          · simp at h
        · simp at h
    · rename_i o r hoi hci
      rw [hci] at hr
      simp only at hr
      obtain ⟨r1, r2⟩ := effR_plain hoi (.inr (.inr ⟨r, hci⟩))
      cases hrk : Nat.beq r k with
      | false => rw [hrk] at hr; simp at hr
      | true =>
        rw [hrk] at hr
        simp only [cond_true] at hr
        have hrk := Nat.eq_of_beq_eq_true hrk
        subst hrk
        split at h
        · rename_i v s' hact
          split at h
          · rename_i st' hp
            obtain ⟨a1, a2, a3, a4⟩ := putA_some hp
            refine tail st' (s' :: acc) (r + 1) a1 (fun t ht => a4 t fun e => ht (by rw [r2]; exact dstsAt_mem.2 ⟨o, hoi, e⟩)) hr (by simp [hl]) (by rw [a2]; rfl) ⟨[s'], rfl⟩ h (.inr ⟨rank_w hci, rfl⟩) fun hfr hag hs1 hs2 => ?_
            refine ⟨fun ts' h' => by rw [hci] at h'; simp at h', fun r' h' => ?_, fun r j x h' => by rw [hci] at h'; simp at h', fun ts' h' => by rw [hci] at h'; simp at h'⟩
            rw [hci] at h'; simp at h'; subst h'
            refine ⟨o, v, hoi, ?_, fun d hd => ⟨(a3 d hd).1, ?_⟩⟩
            · rw [hs1, hs2, a2, ← actG_congr (fun t ht => hag t (by rw [r1]; exact ht))]; exact hact
            · rw [hfr d (fun j hj => hdis d (by rw [r2]; exact dstsAt_mem.2 ⟨o, hoi, hd⟩) j hj)]; exact (a3 d hd).2
          · simp at h
        · simp at h
    · rename_i o r j x hoi hci
      rw [hci] at hr
      simp only at hr
      cases hrk : Nat.beq r k with
      | false => rw [hrk] at hr; simp at hr
      | true =>
        rw [hrk] at hr
        simp only [cond_true] at hr
        have hrk := Nat.eq_of_beq_eq_true hrk
        subst hrk
        split at h
        · rename_i o1 o2 hoj hox
          split at h
          · rename_i kf hf
            obtain ⟨f1, f2, f3, f4, f5, f6, f7, f8, f9, f10, f11⟩ := fused_inv hf
            have hew : effW ops p i = [kf.d, kf.p] := by simp [effW, hci, dstsAt, dstAt, hoi, hoj, f2, f4]
            split at h
            · rename_i v s' hfu
              split at h
              · rename_i st' hp
                unfold fuseSt at hp
                split at hp
                · rename_i st1 hp1
                  obtain ⟨a1, a2, a3, a4⟩ := putA_some hp1
                  obtain ⟨b1, b2, b3, b4⟩ := putA_some hp
                  obtain ⟨a31, a32⟩ := a3 kf.d rfl
                  obtain ⟨b31, b32⟩ := b3 kf.p rfl
                  refine tail st' (s' :: acc) (r + 1) (b1.trans a1) (fun t ht => ?_) hr (by simp [hl]) (by rw [b2, a2]; rfl) ⟨[s'], rfl⟩ h (.inr ⟨rank_fa hci, rfl⟩) fun hfr hag hs1 hs2 => ?_
                  · rw [hew] at ht
                    simp at ht
                    rw [b4 t (fun e => ht.2 (by simpa using e.symm)), a4 t (fun e => ht.1 (by simpa using e.symm))]
                  · refine ⟨fun ts' h' => by rw [hci] at h'; simp at h', fun r' h' => by rw [hci] at h'; simp at h', fun r' j' x' h' => ?_, fun ts' h' => by rw [hci] at h'; simp at h'⟩
                    rw [hci] at h'; simp at h'; obtain ⟨rfl, rfl, rfl⟩ := h'
                    refine ⟨o, o1, o2, kf, v, st.ρ, hoi, hoj, hox, hf, ?_, hag, a31, by rw [a1] at b31; exact b31, ?_, ?_⟩
                    · rw [hs1, hs2, b2, a2]; exact hfu
                    · rw [hfr kf.d (fun q hq => hdis kf.d (by rw [hew]; simp) q hq), b4 kf.d (fun e => f7 (by simpa using e.symm))]; exact a32
                    · rw [hfr kf.p (fun q hq => hdis kf.p (by rw [hew]; simp) q hq)]; exact b32
                · simp at hp
              · simp at h
            · simp at h
          · simp at h
        · simp at h
    · rename_i o hoi hci
      rw [hci] at hr
      exact tail st acc k rfl (fun _ _ => rfl) hr hl hh ⟨[], rfl⟩ h (.inl ⟨rank_fj hci, rfl⟩) fun _ _ _ _ =>
        ⟨fun ts' h' => by rw [hci] at h'; simp at h', fun r' h' => by rw [hci] at h'; simp at h', fun r' j' x' h' => by rw [hci] at h'; simp at h', fun ts' h' => by rw [hci] at h'; simp at h'⟩
    · rename_i o hoi hci
      rw [hci] at hr
      exact tail st acc k rfl (fun _ _ => rfl) hr hl hh ⟨[], rfl⟩ h (.inl ⟨rank_fx hci, rfl⟩) fun _ _ _ _ =>
        ⟨fun ts' h' => by rw [hci] at h'; simp at h', fun r' h' => by rw [hci] at h'; simp at h', fun r' j' x' h' => by rw [hci] at h'; simp at h', fun ts' h' => by rw [hci] at h'; simp at h'⟩
    · simp at h

/-- The facts that an operation of the first part leaves. -/
structure FirstF (E : Env) (L : Lim) (ops : Array Oper) (p : Plan) (ρ0 ρf : Nat → AV) (N lo hi : Nat) (i : Nat) : Prop where
  q : ∀ ts, p.cls[i]? = some (.q ts) → ∃ o s v, ops[i]? = some o ∧ quietG E L ops (envAt p.war ρ0 ρf i) s o = some v ∧ (∀ d, o.dst = some d → d < N ∧ ρf d = v) ∧ ∀ t ∈ ts, pureAt ops i = true ∨ (i, t) ∈ p.chk
  h : ∀ ts, p.cls[i]? = some (.h ts) → ∃ o cs mk id, ops[i]? = some o ∧ hcells E (envAt p.war ρ0 ρf i) o = some (cs, mk) ∧ (∀ d, o.dst = some d → d < N ∧ ρf d = mk id) ∧ lo ≤ id ∧ id < hi ∧ ∀ t ∈ ts, (i, t) ∈ p.chk
  n : rank p i = none ∧ p.cls[i]? ≠ some .fj ∧ p.cls[i]? ≠ some .fx

theorem first_facts {st1 : St} {rest : List Nat} {ρf : Nat → AV} (hfin : ∀ t, (∀ j ∈ rest, t ∉ effW ops p j) → ρf t = st1.ρ t) : ∀ (first : List Nat) (done : List Nat) (st : St), orderOk ops p done (first ++ rest) = true →
    (∀ t, t ∉ done → st.ρ t = ρ0 t) → firstOk ops p first = true → firstA E L ops p.cls first st = some st1 →
    ∃ hs done', st1.N = st.N ∧ (∀ t, (∀ j ∈ first, t ∉ effW ops p j) → st1.ρ t = st.ρ t) ∧ st1.s = { st.s with bs := st.s.bs ++ hs } ∧ orderOk ops p done' rest = true ∧ (∀ t, t ∉ done' → st1.ρ t = ρ0 t) ∧
    (∀ i ∈ first, FirstF E L ops p ρ0 ρf st.N st.s.bs.length (st.s.bs ++ hs).length i) ∧
    (∀ i j oi oj ts us d e id, i ∈ first → j ∈ first → ops[i]? = some oi → ops[j]? = some oj → p.cls[i]? = some (.h ts) → p.cls[j]? = some (.h us) → oi.dst = some d → oj.dst = some e → idOf (ρf d) = some id → idOf (ρf e) = some id → i = j) := by
  intro first
  induction first with
  | nil =>
    intro done st ho h0 hf h
    simp [firstA] at h
    subst h
    exact ⟨[], done, rfl, fun _ _ => rfl, by simp, ho, h0, by simp, by simp⟩
  | cons i first ih =>
    intro done st ho h0 hf h
    rw [List.cons_append] at ho
    obtain ⟨ho', hdis⟩ := order_next ho
    simp only [firstOk, Bool.and_eq_true] at hf
    simp only [firstA] at h
    split at h
    · rename_i o ts hoi hci
      have hf1 := hf.1
      rw [hci] at hf1
      simp only at hf1
      obtain ⟨r1, r2⟩ := effR_plain hoi (.inl ⟨ts, hci⟩)
      split at h
      · rename_i v hq
        split at h
        · rename_i st' hp
          obtain ⟨a1, a2, a3, a4⟩ := putA_some hp
          have hfr : ∀ t, t ∉ effW ops p i → st'.ρ t = st.ρ t := fun t ht => a4 t fun e => ht (by rw [r2]; exact dstsAt_mem.2 ⟨o, hoi, e⟩)
          obtain ⟨hs, done', b1, b2, b3, b4, b5, b6, b7⟩ := ih _ st' ho' (fun t ht => by
            rw [hfr t (fun q => ht (List.mem_append_left _ q))]
            exact h0 t (fun q => ht (List.mem_append_right _ q))) hf.2 h
          have hframe : ∀ t, (∀ j ∈ i :: first, t ∉ effW ops p j) → st1.ρ t = st.ρ t := fun t ht => by
            rw [b2 t (fun j hj => ht j (List.mem_cons_of_mem _ hj)), hfr t (ht i (List.mem_cons_self ..))]
          have hfin' : ∀ t, (∀ j ∈ first ++ rest, t ∉ effW ops p j) → ρf t = st'.ρ t := fun t ht => by
            rw [hfin t (fun j hj => ht j (List.mem_append_right _ hj)), b2 t (fun j hj => ht j (List.mem_append_left _ hj))]
          have hag : Agrees ops p ρ0 ρf st.ρ i := agrees_of ho h0 fun t ht => by
            rw [hfin' t (fun j hj => ht j (List.mem_cons_of_mem _ hj)), hfr t (ht i (List.mem_cons_self ..))]
          rw [a2] at b3
          refine ⟨hs, done', b1.trans a1, hframe, b3, b4, b5, fun j hj => ?_, ?_⟩
          · rcases List.mem_cons.1 hj with rfl | hj
            · refine ⟨fun ts' h' => ?_, fun ts' h' => by rw [hci] at h'; simp at h', rank_q hci, by rw [hci]; simp, by rw [hci]; simp⟩
              rw [hci] at h'; simp at h'; subst h'
              refine ⟨o, st.s, v, hoi, ?_, fun d hd => ⟨(a3 d hd).1, ?_⟩, fun t ht => ?_⟩
              · rw [← quietG_congr (fun t ht => hag t (by rw [r1]; exact ht))]; exact hq
              · rw [hfin' d (hdis d (by rw [r2]; exact dstsAt_mem.2 ⟨o, hoi, hd⟩))]; exact (a3 d hd).2
              · have := List.all_eq_true.1 hf1 t ht
                simp only [Bool.or_eq_true] at this
                rcases this with q | q
                · exact .inl q
                · exact .inr (hasPair_iff q)
            · have := b6 j hj; rw [a1, a2] at this; exact this
          · intro i1 j1 oi oj ts1 us d e id hi1 hj1 e1 e2 e3 e4 e5 e6 e7 e8
            rcases List.mem_cons.1 hi1 with rfl | hi1
            · rw [hci] at e3; simp at e3
            · rcases List.mem_cons.1 hj1 with rfl | hj1
              · rw [hci] at e4; simp at e4
              · exact b7 i1 j1 oi oj ts1 us d e id hi1 hj1 e1 e2 e3 e4 e5 e6 e7 e8
        · simp at h
      · simp at h
    · rename_i o ts hoi hci
      have hf1 := hf.1
      rw [hci] at hf1
      simp only at hf1
      obtain ⟨r1, r2⟩ := effR_plain hoi (.inr (.inl ⟨ts, hci⟩))
      split at h
      · rename_i cs mk hq
        split at h
        · rename_i st' hp
          obtain ⟨a1, a2, a3, a4⟩ := putA_some hp
          have hfr : ∀ t, t ∉ effW ops p i → st'.ρ t = st.ρ t := fun t ht => a4 t fun e => ht (by rw [r2]; exact dstsAt_mem.2 ⟨o, hoi, e⟩)
          obtain ⟨hs, done', b1, b2, b3, b4, b5, b6, b7⟩ := ih _ st' ho' (fun t ht => by
            rw [hfr t (fun q => ht (List.mem_append_left _ q))]
            exact h0 t (fun q => ht (List.mem_append_right _ q))) hf.2 h
          have hframe : ∀ t, (∀ j ∈ i :: first, t ∉ effW ops p j) → st1.ρ t = st.ρ t := fun t ht => by
            rw [b2 t (fun j hj => ht j (List.mem_cons_of_mem _ hj)), hfr t (ht i (List.mem_cons_self ..))]
          have hfin' : ∀ t, (∀ j ∈ first ++ rest, t ∉ effW ops p j) → ρf t = st'.ρ t := fun t ht => by
            rw [hfin t (fun j hj => ht j (List.mem_append_right _ hj)), b2 t (fun j hj => ht j (List.mem_append_left _ hj))]
          have hag : Agrees ops p ρ0 ρf st.ρ i := agrees_of ho h0 fun t ht => by
            rw [hfin' t (fun j hj => ht j (List.mem_cons_of_mem _ hj)), hfr t (ht i (List.mem_cons_self ..))]
          rw [a2] at b3
          have hval : ∀ d, o.dst = some d → d < st.N ∧ ρf d = mk st.s.bs.length := fun d hd => ⟨(a3 d hd).1, by
            rw [hfin' d (hdis d (by rw [r2]; exact dstsAt_mem.2 ⟨o, hoi, hd⟩))]; exact (a3 d hd).2⟩
          have hlen : st'.s.bs.length = st.s.bs.length + 1 := by rw [a2]; simp
          have hother : ∀ j ∈ first, ∀ oj us e id, ops[j]? = some oj → p.cls[j]? = some (.h us) → oj.dst = some e → idOf (ρf e) = some id → st.s.bs.length + 1 ≤ id := by
            intro j hj oj us e id e2 e4 e6 e8
            obtain ⟨o', cs', mk', id', q1, q2, q3, q4, q5, q6⟩ := (b6 j hj).h us e4
            rw [e2] at q1; simp at q1; subst q1
            rw [(q3 e e6).2, hcells_id q2] at e8
            simp at e8
            omega
          refine ⟨cs :: hs, done', b1.trans a1, hframe, by rw [b3]; simp, b4, b5, fun j hj => ?_, ?_⟩
          · rcases List.mem_cons.1 hj with rfl | hj
            · refine ⟨fun ts' h' => by rw [hci] at h'; simp at h', fun ts' h' => ?_, rank_h hci, by rw [hci]; simp, by rw [hci]; simp⟩
              rw [hci] at h'; simp at h'; subst h'
              refine ⟨o, cs, mk, st.s.bs.length, hoi, ?_, hval, Nat.le_refl _, by simp, fun t ht => ?_⟩
              · rw [← hcells_congr (fun t ht => hag t (by rw [r1]; exact List.mem_append_right _ ht))]; exact hq
              · exact hasPair_iff (List.all_eq_true.1 hf1 t ht)
            · have := b6 j hj
              rw [a1, hlen] at this
              refine ⟨this.q, fun ts' h' => ?_, this.n⟩
              obtain ⟨o', cs', mk', id', q1, q2, q3, q4, q5, q6⟩ := this.h ts' h'
              exact ⟨o', cs', mk', id', q1, q2, q3, by omega, by rw [List.length_append, hlen] at q5; simp; omega, q6⟩
          · intro i1 j1 oi oj ts1 us d e id hi1 hj1 e1 e2 e3 e4 e5 e6 e7 e8
            rcases List.mem_cons.1 hi1 with rfl | hi1
            · rcases List.mem_cons.1 hj1 with rfl | hj1
              · rfl
              · rw [hoi] at e1; simp at e1; subst e1
                rw [(hval d e5).2, hcells_id hq] at e7
                simp at e7
                have := hother j1 hj1 oj us e id e2 e4 e6 e8
                omega
            · rcases List.mem_cons.1 hj1 with rfl | hj1
              · rw [hoi] at e2; simp at e2; subst e2
                rw [(hval e e6).2, hcells_id hq] at e8
                simp at e8
                have := hother i1 ‹i1 ∈ first› oi ts1 d id e1 e3 e5 e7
                omega
              · exact b7 i1 j1 oi oj ts1 us d e id hi1 hj1 e1 e2 e3 e4 e5 e6 e7 e8
        · simp at h
      · simp at h
    · simp at h

end
end Go.Tel
