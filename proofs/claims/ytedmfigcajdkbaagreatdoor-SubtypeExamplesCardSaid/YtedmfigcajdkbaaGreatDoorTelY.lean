/-
  A region with a drawn order: the evaluation is sound.
-/
import Derived.Test.YtedmfigcajdkbaaGreatDoorTelX
namespace Go.Tel

theorem has_app {l : List Nat} {x : Nat} (h : has l x = true) : x ∈ l := has_iff.1 h

theorem chkA_spec {E : Env} {L : Lim} {ops : Array Oper} {cls : List Cls} {war : List (List Nat)} {ρ0 ρf : Nat → AV} {σ : List Sto} : ∀ (chk : List (Nat × Nat)), chkA E L ops cls war ρ0 ρf σ chk = true → ∀ i k, (i, k) ∈ chk →
    (∀ o ts, ops[i]? = some o → cls[i]? = some (.q ts) → ∃ s v, σ[k]? = some s ∧ quietG E L ops (envAt war ρ0 ρf i) s o = some v ∧ ∀ d, o.dst = some d → ρf d = v) ∧
    (∀ o ts, ops[i]? = some o → cls[i]? = some (.h ts) → ∃ s cs mk d id, σ[k]? = some s ∧ hcells E (envAt war ρ0 ρf i) o = some (cs, mk) ∧ o.dst = some d ∧ idOf (ρf d) = some id ∧ s.bs[id]? = some cs) := by
  intro chk
  induction chk with
  | nil => intro _ i k h; simp at h
  | cons q chk ih =>
    obtain ⟨i', k'⟩ := q
    intro h i k hm
    simp only [chkA, Bool.and_eq_true] at h
    rcases List.mem_cons.1 hm with e | hm
    · simp at e
      obtain ⟨rfl, rfl⟩ := e
      have h := h.1
      split at h
      · rename_i o ts s ho hc hs
        refine ⟨fun o' ts' ho' _ => ?_, fun o' ts' _ hc' => by rw [hc] at hc'; simp at hc'⟩
        rw [ho] at ho'; simp at ho'; subst ho'
        split at h
        · rename_i v hq
          refine ⟨s, v, hs, hq, fun d hd => ?_⟩
          rw [hd] at h
          exact (eqA_sound _ _ h).symm
        · simp at h
      · rename_i o ts s ho hc hs
        refine ⟨fun o' ts' _ hc' => by rw [hc] at hc'; simp at hc', fun o' ts' ho' _ => ?_⟩
        rw [ho] at ho'; simp at ho'; subst ho'
        split at h
        · rename_i cs mk d hh hd
          split at h
          · rename_i id hid
            split at h
            · rename_i cs' hcs
              exact ⟨s, cs, mk, d, id, hs, hh, hd, hid, by rw [hcs, eqAL_sound _ _ h]⟩
            · simp at h
          · simp at h
        · simp at h
      · simp at h
    · exact ih h.2 i k hm

theorem Inv.reserveL {E : Env} {w : World} : ∀ (hs : List (List AV)) (g : Ghost) (s : Sto), Inv E g w s → ∃ q : Nat → Prop, (∀ id, g.pend id → q id) ∧ (∀ id, s.bs.length ≤ id → id < s.bs.length + hs.length → q id) ∧ Inv E (g.withPend q) w { s with bs := s.bs ++ hs } := by
  intro hs
  induction hs with
  | nil => intro g s h; exact ⟨g.pend, fun _ q => q, fun id a b => by simp at b; omega, by simpa using h.withPend h.pendN (fun _ q => q) (fun id b hb => (h.mpX id b hb).2.2)⟩
  | cons cs hs ih =>
    intro g s h
    obtain ⟨q, h1, h2, h3⟩ := ih _ _ (h.reserve cs)
    refine ⟨q, fun id hq => h1 id (.inl hq), fun id a b => ?_, by simpa [Ghost.withPend] using h3⟩
    by_cases e : id = s.bs.length
    · exact h1 id (.inr e)
    · exact h2 id (by simp; omega) (by simp at b ⊢; omega)

theorem stoAt_eq {acc : List Sto} {k : Nat} {s : Sto} (h : acc.reverse[k]? = some s) : stoAt acc k = s := by simp [stoAt, h]

theorem fuseA_congr {E : Env} {L : Lim} {ρ ρ' : Nat → AV} {s : Sto} {k : Fuse} (h : ∀ z, z = k.x ∨ z = k.y ∨ z = k.ix ∨ z = k.v → evalO ρ z = evalO ρ' z) : fuseA E L ρ' s k = fuseA E L ρ s k := by
  unfold fuseA
  rw [h k.x (.inl rfl), h k.y (.inr (.inl rfl)), h k.ix (.inr (.inr (.inl rfl))), h k.v (.inr (.inr (.inr rfl)))]

section
variable {E : Env} {L : Lim} {cf : CallF} {ops : Array Oper} {p : Plan}

theorem regA_sound (hcf : CallOk E L cf) (hmix : E.P.follows .mixedOrders = true) (hpl : planOk ops p = true) {g : Ghost} {w : World} {a : Act} {st st' : St} {Q : Exit → Act → World → Prop} {id : Nat} (hI : Inv E g w st.s) (hsz : a.tmps.size = st.N)
    (hρ : ∀ t, V g w (st.ρ t) (a.tmps.getD t undef)) (h : regA E L cf p ops st = some st')
    (hQ : ∀ a' w' g', a'.tmps.size = st'.N → a'.defers = a.defers → Ext L g w g' w' → Inv E g' w' st'.s → (∀ t, V g' w' (st'.ρ t) (a'.tmps.getD t undef)) → st'.N = st.N → Q .normal a' w') :
    (Code.region id ops true).wp E.P Q a w := by
  unfold planOk at hpl
  simp only at hpl
  split at hpl
  · simp at hpl
  rename_i K hK
  simp only [Bool.and_eq_true] at hpl
  obtain ⟨⟨⟨⟨hlen, hmem⟩, hall⟩, hord⟩, hfirst⟩ := hpl
  unfold regA at h
  split at h
  · rename_i st1 h1
    split at h
    · rename_i stf accf h2
      cases hch : chkA E L ops p.cls p.war st.ρ stf.ρ accf.reverse p.chk with
      | false => rw [hch] at h; simp at h
      | true =>
        rw [hch] at h
        simp at h
        subst h
        obtain ⟨_, done', _, _, _, ho', h0', _, _⟩ := first_facts (E := E) (L := L) (ρ0 := st.ρ) (ρf := st1.ρ) (fun _ _ => rfl) p.first [] st hord (fun _ _ => rfl) hfirst h1
        obtain ⟨r1, r2, ⟨new, r3⟩, r4, r5, _, r7, r8, r9⟩ := rest_facts (ρ0 := st.ρ) p.rest done' st1 [st1.s] 0 ho' h0' hK rfl rfl h2
        obtain ⟨hs, _, f1, f2, f3, _, _, f6, f7⟩ := first_facts (E := E) (L := L) (ρ0 := st.ρ) (ρf := stf.ρ) r2 p.first [] st hord (fun _ _ => rfl) hfirst h1
        have hchk := chkA_spec p.chk hch
        have hin : ∀ (i : Nat) o, ops[i]? = some o → i ∈ p.first ∨ i ∈ p.rest := fun i o ho => List.mem_append.1 (has_app (all_range hmem (lt_of_getElem? ho)))
        have hst : ∀ (i : Nat) o, ops[i]? = some o → edgeOk ops p i = true ∧ plainOk ops p i = true ∧ dstOk ops ops.size i = true ∧ readOk ops p ops.size i = true ∧ rankOk p ops.size i = true ∧ timeOk p ops.size K i = true ∧ fuseOk ops p ops.size i = true := fun i o ho => by
          have := all_range hall (lt_of_getElem? ho)
          simp only [Bool.and_eq_true] at this
          obtain ⟨⟨⟨⟨⟨⟨a1, a2⟩, a3⟩, a4⟩, a5⟩, a6⟩, a7⟩ := this
          exact ⟨a1, a2, a3, a4, a5, a6, a7⟩
        have hN1 : st1.N = st.N := f1
        have hNf : stf.N = st.N := r1.trans f1
        have hσ0 : stoAt accf 0 = st1.s := by rw [r3, stoAt_new rfl]; rfl
        have hσK : stoAt accf K = stf.s := by
          have := stoAt_new (new := []) r4
          rw [List.nil_append] at this
          rw [this, r5]; rfl
        have R : Reg E L cf ops p K st.N st.ρ stf.ρ (stoAt accf) := {
          edge := fun i o e ho he hb => by
            have := (hst i o ho).1
            simp only [edgeOk, ho, Bool.and_eq_true] at this
            have := List.all_eq_true.1 this.1 e (by simpa using he)
            simpa [hb, Nat.blt_eq] using this
          pre := fun i o j ho hj => by
            have := (hst i o ho).1
            simp only [edgeOk, ho, Bool.and_eq_true] at this
            obtain ⟨e, he, h'⟩ := List.any_eq_true.1 (List.all_eq_true.1 this.2 j hj)
            simp only [Bool.and_eq_true, Bool.or_eq_true] at h'
            exact ⟨e, by simpa using he, h'.1, h'.2.imp Nat.eq_of_beq_eq_true has_app⟩
          cls := fun i o ho => by
            have := (hst i o ho).2.1
            unfold plainOk at this
            rw [ho] at this
            cases hc : p.cls[i]? with
            | none => rw [hc] at this; simp at this
            | some c => exact ⟨c, rfl⟩
          dst := fun i j oi oj d hi hj hdi hdj => by
            have := all_range (hst i oi hi).2.2.1 (lt_of_getElem? hj)
            simp only [Bool.or_eq_true] at this
            rcases this with q | q
            · exact (Nat.eq_of_beq_eq_true q).symm
            · have := List.all_eq_true.1 q d (dstsAt_mem.2 ⟨oj, hj, hdj⟩)
              simp only [Bool.not_eq_true'] at this
              exact absurd (dstsAt_mem.2 ⟨oi, hi, hdi⟩) (has_false.1 this)
          read := fun i j oi oj d hi hj hdj hd => by
            have := List.all_eq_true.1 (all_range (hst i oi hi).2.2.2.1 (lt_of_getElem? hj)) d (dstsAt_mem.2 ⟨oj, hj, hdj⟩)
            have hr : has (readsAt ops i) d = true := has_iff.2 (by simp only [readsAt, hi]; exact hd)
            rw [hr] at this
            simp only [Bool.not_true, Bool.false_or] at this
            cases hw : has (warOf p.war i) d with
            | true =>
              rw [hw] at this
              simp only [cond_true, Bool.or_eq_true] at this
              exact .inl ⟨rfl, this.imp Nat.eq_of_beq_eq_true has_app⟩
            | false =>
              rw [hw] at this
              exact .inr ⟨rfl, has_app (by simpa using this)⟩
          rk := fun i j oi oj r r' hi hj hri hrj hlt => by
            have := (hst i oi hi).2.2.2.2.1
            unfold rankOk at this
            rw [hri] at this
            have := all_range this (lt_of_getElem? hj)
            rw [hrj] at this
            simp only [Bool.or_eq_true, Bool.and_eq_true, Bool.not_eq_true'] at this
            rcases this with q | ⟨_, q⟩
            · have := Nat.eq_of_beq_eq_true q
              subst this
              rw [hri] at hrj; simp at hrj; omega
            · rcases q with q | q
              · have : Nat.blt r r' = true := by rw [Nat.blt_eq]; exact hlt
                rw [this] at q; simp at q
              · exact has_app q
          rkInj := fun i j oi oj r hi hj hri hrj => by
            have := (hst i oi hi).2.2.2.2.1
            unfold rankOk at this
            rw [hri] at this
            have := all_range this (lt_of_getElem? hj)
            rw [hrj] at this
            simp only [Bool.or_eq_true, Bool.and_eq_true, Bool.not_eq_true'] at this
            rcases this with q | ⟨q, _⟩
            · exact Nat.eq_of_beq_eq_true q
            · simp at q
          rkEx := fun k hk => by
            obtain ⟨i, hi, hr⟩ := r9 k (Nat.zero_le _) hk
            have hR := r7 i hi
            unfold rank at hr
            cases hc : p.cls[i]? with
            | none => rw [hc] at hr; simp at hr
            | some c =>
              rw [hc] at hr
              cases c with
              | w r => obtain ⟨o, _, ho, _⟩ := hR.w r hc; exact ⟨i, o, ho, by unfold rank; rw [hc]; exact hr⟩
              | fa r j x => obtain ⟨o, _, _, _, _, _, ho, _⟩ := hR.fa r j x hc; exact ⟨i, o, ho, by unfold rank; rw [hc]; exact hr⟩
              | _ => simp [clsRank] at hr
          rkLt := fun i o r ho hr => by
            rcases hin i o ho with hi | hi
            · have := (f6 i hi).n.1; rw [this] at hr; simp at hr
            · exact r8 i hi r hr
          time := fun i o ts ho hc k hk hn => by
            have ht := (hst i o ho).2.2.2.2.2.1
            have key : ((List.range (K + 1)).all fun k => has ts k || (List.range ops.size).any fun j => match rank p j with
                | some r => (has (preOf p i) j && Nat.ble k r) || (has (preOf p j) i && Nat.blt r k)
                | none => false) = true := by
              unfold timeOk at ht
              rcases hc with hc | hc <;> rw [hc] at ht <;> simp only [Bool.and_eq_true] at ht <;> exact ht.1
            have := all_range key (show k < K + 1 by omega)
            rw [has_false.2 hn, Bool.false_or] at this
            obtain ⟨j, hj, h'⟩ := List.any_eq_true.1 this
            cases hr : rank p j with
            | none => rw [hr] at h'; simp at h'
            | some r =>
              rw [hr] at h'
              simp only [Bool.or_eq_true, Bool.and_eq_true] at h'
              have hjlt : j < ops.size := by simpa using hj
              refine ⟨j, ops[j], r, by simp [hjlt], hr, h'.imp (fun q => ⟨has_app q.1, by simpa [Nat.ble_eq] using q.2⟩) (fun q => ⟨has_app q.1, by simpa [Nat.blt_eq] using q.2⟩)⟩
          fuse := fun i o r j x ho hc => by
            have hfo := (hst i o ho).2.2.2.2.2.2
            unfold fuseOk at hfo
            rw [hc] at hfo
            simp only [Bool.and_eq_true] at hfo
            obtain ⟨⟨⟨⟨u1, u2⟩, u3⟩, u4⟩, u5⟩ := hfo
            rcases hin i o ho with hi | hi
            · have := (f6 i hi).n.1; rw [rank_fa hc] at this; simp at this
            obtain ⟨o', o1, o2, kf, v, ρ, g1, g2, g3, g4, g5, g6, g7, g8, g9, g10⟩ := (r7 i hi).fa r j x hc
            rw [ho] at g1; simp at g1; subst g1
            obtain ⟨q1, q2, q3, q4, q5, q6, q7, q8, q9, q10, q11⟩ := fused_inv g4
            have hcj : p.cls[j]? = some .fj ∧ p.cls[x]? = some .fx := by
              split at u1
              · rename_i e1 e2 _ _ _; exact ⟨e1, e2⟩
              · simp at u1
            have war : ∀ (i' : Nat) o', ops[i']? = some o' → (p.cls[i']? = some (.fa r j x) ∨ p.cls[i']? = some .fj ∨ p.cls[i']? = some .fx) → warOf p.war i' = [] := fun i' o' ho' hc' => by
              have := (hst i' o' ho').2.1
              unfold plainOk at this
              rw [ho'] at this
              rcases hc' with hc' | hc' | hc' <;> rw [hc'] at this <;> simp only [Bool.and_eq_true] at this <;> simpa using this.2
            have w1 := war i o ho (.inl hc)
            have w2 := war j o1 g2 (.inr (.inl hcj.1))
            have w3 := war x o2 g3 (.inr (.inr hcj.2))
            refine ⟨o1, o2, kf, g2, g3, hcj.1, hcj.2, g4, w1, w2, w3, has_app u2, has_app u3, has_app u4, v, ?_, g9, g10⟩
            rw [← g5]
            refine fuseA_congr fun z hz => evalO_congr fun t ht => ?_
            have hmem : t ∈ effR ops p i := by
              unfold effR
              rw [hc]
              simp only [List.mem_filter]
              have hd1 : dstsAt ops i ++ dstsAt ops j = [kf.d, kf.p] := by simp [dstsAt, dstAt, ho, g2, q2, q4]
              constructor
              · simp only [List.mem_append]
                rcases hz with e | e | e | e
                · exact .inl (.inl (by simp only [readsAt, ho]; exact List.mem_append_right _ (mem_opReads.2 (by rw [q1]; simp [Op.operands, Call.operands, ← e, ht]))))
                · exact .inl (.inl (by simp only [readsAt, ho]; exact List.mem_append_right _ (mem_opReads.2 (by rw [q1]; simp [Op.operands, Call.operands, ← e, ht]))))
                · exact .inl (.inr (by simp only [readsAt, g2]; exact List.mem_append_right _ (mem_opReads.2 (by rw [q3]; simp [Op.operands, ← e, ht]))))
                · exact .inr (by simp only [readsAt, g3]; exact List.mem_append_right _ (mem_opReads.2 (by rw [q5]; simp [Op.operands, ← e, ht])))
              · rw [hd1]
                obtain ⟨z1, z2⟩ := fused_apart g4 z hz
                simp only [Bool.not_eq_true', has_false, List.mem_cons, List.not_mem_nil, or_false, not_or]
                exact ⟨fun e => z1 (by rw [ht, e]), fun e => z2 (by rw [ht, e])⟩
            have := g6 t hmem
            rw [this]
            unfold envAt
            rw [w1]
            rfl
          win := fun i o r j x ho hc m om hm h1 h2 h3 => by
            have hfo := (hst i o ho).2.2.2.2.2.2
            unfold fuseOk at hfo
            rw [hc] at hfo
            simp only [Bool.and_eq_true] at hfo
            have := all_range hfo.2 (lt_of_getElem? hm)
            have n1 : Nat.beq m i = false := by rw [Bool.eq_false_iff]; exact fun q => h1 (Nat.eq_of_beq_eq_true q)
            have n2 : Nat.beq m j = false := by rw [Bool.eq_false_iff]; exact fun q => h2 (Nat.eq_of_beq_eq_true q)
            have n3 : Nat.beq m x = false := by rw [Bool.eq_false_iff]; exact fun q => h3 (Nat.eq_of_beq_eq_true q)
            rw [n1, n2, n3] at this
            simp only [Bool.false_or, Bool.and_eq_true, Bool.or_eq_true] at this
            refine ⟨this.1.imp has_app (fun q => q.imp has_app (fun z => z)), fun d hd hr => ?_⟩
            have := List.all_eq_true.1 this.2 d (dstsAt_mem.2 ⟨om, hm, hd⟩)
            simp only [Bool.or_eq_true, Bool.not_eq_true', Bool.or_eq_false_iff] at this
            rcases this with q | q
            · rcases hr with hr | hr
              · exact absurd hr (has_false.1 q.1)
              · exact absurd hr (has_false.1 q.2)
            · exact has_app q
          fjEx := fun j oj hj hc => by
            have hfo := (hst j oj hj).2.2.2.2.2.2
            unfold fuseOk at hfo
            rw [hc] at hfo
            obtain ⟨m, hm, h'⟩ := List.any_eq_true.1 hfo
            have hlt : m < ops.size := by simpa using hm
            split at h'
            · rename_i r j' x' hcm
              have := Nat.eq_of_beq_eq_true h'
              subst this
              exact ⟨m, ops[m], r, x', by simp [hlt], hcm⟩
            · simp at h'
          fxEx := fun x ox hx hc => by
            have hfo := (hst x ox hx).2.2.2.2.2.2
            unfold fuseOk at hfo
            rw [hc] at hfo
            obtain ⟨m, hm, h'⟩ := List.any_eq_true.1 hfo
            have hlt : m < ops.size := by simpa using hm
            split at h'
            · rename_i r j' x' hcm
              have := Nat.eq_of_beq_eq_true h'
              subst this
              exact ⟨m, ops[m], r, j', by simp [hlt], hcm⟩
            · simp at h'
          out := fun t ht => by
            have hw : ∀ j, t ∉ effW ops p j := fun j hj => by
              unfold effW at hj
              have nd : ∀ q, t ∉ dstsAt ops q := fun q hq => by obtain ⟨o, h1, h2⟩ := dstsAt_mem.1 hq; exact ht q o h1 h2
              split at hj
              · simp at hj
              · simp at hj
              · rcases List.mem_append.1 hj with q | q <;> exact nd _ q
              · exact nd _ hj
            rw [r2 t (fun j _ => hw j), f2 t (fun j _ => hw j)]
          dstN := fun i o d ho hd => by
            rcases hin i o ho with hi | hi
            · have hF := f6 i hi
              cases hc : p.cls[i]? with
              | none =>
                have := (hst i o ho).2.1
                unfold plainOk at this
                rw [ho, hc] at this
                simp at this
              | some c =>
                cases c with
                | q ts =>
                  obtain ⟨o', _, _, g1, _, g3, _⟩ := hF.q ts hc
                  rw [ho] at g1; simp at g1; subst g1
                  exact (g3 d hd).1
                | h ts =>
                  obtain ⟨o', _, _, _, g1, _, g3, _⟩ := hF.h ts hc
                  rw [ho] at g1; simp at g1; subst g1
                  exact (g3 d hd).1
                | w r => have := hF.n.1; rw [rank_w hc] at this; simp at this
                | fa r j x => have := hF.n.1; rw [rank_fa hc] at this; simp at this
                | fj => exact absurd hc hF.n.2.1
                | fx => exact absurd hc hF.n.2.2
            · have hF := r7 i hi
              have faD : ∀ (m : Nat) r j x, m < ops.size → p.cls[m]? = some (.fa r j x) → ∃ o o1 o2 k, ops[m]? = some o ∧ ops[j]? = some o1 ∧ ops[x]? = some o2 ∧ fused o o1 o2 = some k ∧ k.d < st.N ∧ k.p < st.N := fun m r j x hm hc => by
                rcases hin m ops[m] (by simp [hm]) with mi | mi
                · have := (f6 m mi).n.1; rw [rank_fa hc] at this; simp at this
                · obtain ⟨o', o1, o2, kf, v, ρ, g1, g2, g3, g4, g5, g6, g7, g8, g9, g10⟩ := (r7 m mi).fa r j x hc
                  exact ⟨o', o1, o2, kf, g1, g2, g3, g4, by rw [← hN1]; exact g7, by rw [← hN1]; exact g8⟩
              have hfo := (hst i o ho).2.2.2.2.2.2
              unfold fuseOk at hfo
              cases hc : p.cls[i]? with
              | none =>
                have := (hst i o ho).2.1
                unfold plainOk at this
                rw [ho, hc] at this
                simp at this
              | some c =>
                rw [hc] at hfo
                cases c with
                | q ts =>
                  obtain ⟨o', _, _, g1, _, g3, _⟩ := hF.q ts hc
                  rw [ho] at g1; simp at g1; subst g1
                  rw [← hN1]; exact (g3 d hd).1
                | h ts => exact absurd hc (hF.h ts)
                | w r =>
                  obtain ⟨o', _, g1, _, g3⟩ := hF.w r hc
                  rw [ho] at g1; simp at g1; subst g1
                  rw [← hN1]; exact (g3 d hd).1
                | fa r j x =>
                  obtain ⟨o', o1, o2, k, g1, g2, g3, g4, g5, g6⟩ := faD i r j x (lt_of_getElem? ho) hc
                  rw [ho] at g1; simp at g1; subst g1
                  have := (fused_inv g4).2.1
                  rw [hd] at this; simp at this; rw [this]; exact g5
                | fj =>
                  obtain ⟨m, hm, h'⟩ := List.any_eq_true.1 hfo
                  split at h'
                  · rename_i r j' x' hcm
                    have := Nat.eq_of_beq_eq_true h'
                    subst this
                    obtain ⟨o', o1, o2, k, g1, g2, g3, g4, g5, g6⟩ := faD m r j' x' (by simpa using hm) hcm
                    rw [ho] at g2; simp at g2; subst g2
                    have := (fused_inv g4).2.2.2.1
                    rw [hd] at this; simp at this; rw [this]; exact g6
                  · simp at h'
                | fx =>
                  obtain ⟨m, hm, h'⟩ := List.any_eq_true.1 hfo
                  split at h'
                  · rename_i r j' x' hcm
                    have := Nat.eq_of_beq_eq_true h'
                    subst this
                    obtain ⟨o', o1, o2, k, g1, g2, g3, g4, g5, g6⟩ := faD m r j' x' (by simpa using hm) hcm
                    rw [ho] at g3; simp at g3; subst g3
                    have := (fused_inv g4).2.2.2.2.2.1
                    rw [hd] at this; simp at this
                  · simp at h'
          wF := fun i o r ho hc => by
            rcases hin i o ho with hi | hi
            · have := (f6 i hi).n.1; rw [rank_w hc] at this; simp at this
            · obtain ⟨o', v, g1, g2, g3⟩ := (r7 i hi).w r hc
              rw [ho] at g1; simp at g1; subst g1
              exact ⟨v, g2, fun d hd => (g3 d hd).2⟩
          qF := fun i o ts k ho hc hk => by
            have pureCase : ∀ s v, pureAt ops i = true → quietG E L ops (envAt p.war st.ρ stf.ρ i) s o = some v → quietG E L ops (envAt p.war st.ρ stf.ρ i) (stoAt accf k) o = some v := fun s v hp hq => by
              have hp' : pureOp o = true := by simpa [pureAt, ho] using hp
              unfold quietG at hq ⊢
              split at hq
              · exact quietA_indep hp' hq
              · exact hq
              · simp at hq
            have chkCase : (i, k) ∈ p.chk → ∃ v, quietG E L ops (envAt p.war st.ρ stf.ρ i) (stoAt accf k) o = some v ∧ ∀ d, o.dst = some d → stf.ρ d = v := fun hm => by
              obtain ⟨s, v, g1, g2, g3⟩ := (hchk i k hm).1 o ts ho hc
              exact ⟨v, by rw [stoAt_eq g1]; exact g2, g3⟩
            rcases hin i o ho with hi | hi
            · obtain ⟨o', s, v, g1, g2, g3, g4⟩ := (f6 i hi).q ts hc
              rw [ho] at g1; simp at g1; subst g1
              rcases g4 k hk with q | q
              · exact ⟨v, pureCase s v q g2, fun d hd => (g3 d hd).2⟩
              · exact chkCase q
            · obtain ⟨o', kk, v, g1, g2, g3, g4⟩ := (r7 i hi).q ts hc
              rw [ho] at g1; simp at g1; subst g1
              rcases g4 k hk with q | q | q
              · subst q; exact ⟨v, g2, fun d hd => (g3 d hd).2⟩
              · exact ⟨v, pureCase _ v q g2, fun d hd => (g3 d hd).2⟩
              · exact chkCase q
          hF := fun i o ts ho hc => by
            have hpo := (hst i o ho).2.1
            unfold plainOk at hpo
            rw [ho, hc] at hpo
            simp only [Bool.and_eq_true] at hpo
            rcases hin i o ho with hi | hi
            · obtain ⟨o', cs, mk, id', g1, g2, g3, g4, g5, g6⟩ := (f6 i hi).h ts hc
              rw [ho] at g1; simp at g1; subst g1
              obtain ⟨d, hd⟩ := Option.isSome_iff_exists.1 hpo.2
              refine ⟨by simpa using hpo.1, d, cs, mk, id', hd, g2, (g3 d hd).2, fun k hk => ?_⟩
              obtain ⟨s, cs', mk', d', id'', e1, e2, e3, e4, e5⟩ := (hchk i k (g6 k hk)).2 o ts ho hc
              rw [hd] at e3; simp at e3; subst e3
              rw [(g3 d hd).2, hcells_id g2] at e4
              simp at e4; subst e4
              rw [g2] at e2; simp at e2
              rw [stoAt_eq e1, e5, e2.1]
            · exact absurd hc ((r7 i hi).h ts)
          hInj := fun i j oi oj ts us d e id' hi hj hci hcj hdi hdj h1' h2' => by
            rcases hin i oi hi with m1 | m1
            · rcases hin j oj hj with m2 | m2
              · exact f7 i j oi oj ts us d e id' m1 m2 hi hj hci hcj hdi hdj h1' h2'
              · exact absurd hcj ((r7 j m2).h us)
            · exact absurd hci ((r7 i m1).h ts) }
        have hid : ∀ (i : Nat) o ts d id, ops[i]? = some o → p.cls[i]? = some (.h ts) → o.dst = some d → idOf (stf.ρ d) = some id → st.s.bs.length ≤ id ∧ id < st.s.bs.length + hs.length := fun i o ts d id' ho hc hd hidd => by
          rcases hin i o ho with hi | hi
          · obtain ⟨o', cs, mk, id'', g1, g2, g3, g4, g5, g6⟩ := (f6 i hi).h ts hc
            rw [ho] at g1; simp at g1; subst g1
            rw [(g3 d hd).2, hcells_id g2] at hidd
            simp at hidd; subst hidd
            exact ⟨g4, by simpa using g5⟩
          · exact absurd hc ((r7 i hi).h ts)
        obtain ⟨q, hq1, hq2, hq3⟩ := Inv.reserveL hs g st.s hI
        refine region_any R hcf hmix (g := g) (g1 := g.withPend q) (fun i o ts d id' ho hc hd hidd hp => ?_) ((Ext.refl L g w).withPend hq1) ?_ hsz (fun t => (hρ t).withPend) (fun i o ts d id' ho hc hd hidd => ?_) (fun a' w' g' b1 b2 b3 b4 b5 => ?_)
        · have := (hI.pendN id' hp).1
          have := (hid i o ts d id' ho hc hd hidd).1
          omega
        · rw [hσ0, f3]; exact hq3
        · obtain ⟨x1, x2⟩ := hid i o ts d id' ho hc hd hidd
          exact hq2 id' x1 x2
        · exact hQ a' w' g' (by rw [hNf]; exact b1) b2 b3 (hσK ▸ b4) b5 hNf
    · simp at h
  · simp at h

end
end Go.Tel
