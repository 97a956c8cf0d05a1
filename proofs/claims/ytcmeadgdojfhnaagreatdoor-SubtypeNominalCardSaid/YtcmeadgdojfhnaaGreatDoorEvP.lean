/-
  Code: each piece that the evaluator answers is walked as it says.
-/
import Derived.Test.YtcmeadgdojfhnaaGreatDoorEvO
set_option linter.unusedSimpArgs false
set_option linter.unusedVariables false
namespace Go.Tel
def LoopWp (rd : Option Nat) (P : Program) (c : Code) (Q : Exit → Act → World → Prop) (a : Act) (w : World) : Prop :=
  ∀ (b : Frame) (k : List Item) (cs : List Frame), b.roundOf = (FW rd).round → (FW rd).fn b.fn → (FW rd).room (cs.length + 1 + 0) →
    ∃ e a' w', Q e a' w' ∧ ArrivesIn (Machine.fenced P (FW rd)) P (lone (b.atR a (.code c :: .inLoop c :: k)) cs w) b k cs e a' w'
theorem LoopWp.wp {rd : Option Nat} {P : Program} {c : Code} {Q : Exit → Act → World → Prop} {a : Act} {w : World} (h : LoopWp rd P c Q a w) : (Code.loop c).wpIn (FW rd) 0 P Q a w := by
  intro b k cs hro hb hr
  obtain ⟨e, a', w', hq, harr⟩ := h b k cs hro hb hr
  exact ⟨e, a', w', hq, .of_steps (.one (fenced_calm hb hr rfl) stepR_loop) harr⟩
theorem LoopWp.round {rd : Option Nat} {P : Program} {c : Code} {Q : Exit → Act → World → Prop} {a : Act} {w : World} (h : c.wpIn (FW rd) 0 P (Exit.then (LoopWp rd P c Q) Q) a w) : LoopWp rd P c Q a w := by
  intro b k cs hro hb hr
  obtain ⟨e, a₁, w₁, hq, harr⟩ := h b (.inLoop c :: k) cs hro hb hr
  cases e with
  | normal =>
    obtain ⟨e₂, a₂, w₂, hq₂, harr₂⟩ := hq b k cs hro hb hr
    exact ⟨e₂, a₂, w₂, hq₂, .of_steps (StepsIn.trans harr (.one (fenced_calm hb hr rfl) stepR_inLoop)) harr₂⟩
  | exit id => exact ⟨_, a₁, w₁, hq, .pass (x := .inLoop c) rfl (fun _ _ => .inl (by simp)) harr⟩
  | goto l => exact ⟨_, a₁, w₁, hq, .pass (x := .inLoop c) rfl (fun _ _ => .inl (by simp)) harr⟩
  | ret => exact ⟨_, a₁, w₁, hq, .pass (x := .inLoop c) rfl (fun _ _ => .inl (by simp)) harr⟩
  | panic ch => exact ⟨_, a₁, w₁, hq, .pass (x := .inLoop c) rfl (fun _ _ => .inl (by simp)) harr⟩
  | outgrown => exact ⟨_, a₁, w₁, hq, .pass (x := .inLoop c) rfl (fun _ _ => .inl (by simp)) harr⟩
def Out.toExit : Out → Exit
  | .norm => .normal
  | .exit id => .exit id
  | .ret => .ret
def Walks (E : Env) (L : Lim) (st : St) (o : Out) (st' : St) (W : (Exit → Act → World → Prop) → Act → World → Prop) : Prop :=
  ∀ (g : Ghost) (w : World) (a : Act) (Q : Exit → Act → World → Prop), Sim E g w st a →
    (∀ a' w' g', Sim E g' w' st' a' → Marks w.heap.size a.defers g' w' a'.defers → Ext L g w g' w' → st'.N = st.N → Q o.toExit a' w') → W Q a w
def recL (fn : FuncId) (tmps : Array Value) (ps : Array Tmp) (ca cb : Code) (D : Nat) : Loop := { state := .ready, pending := none, fn, tmps, params := ps, assign := ca, body := cb, defers := D }
set_option maxHeartbeats 1000000 in
theorem evW_sound {E : Env} {cf : Lim → CallF} {L : Lim} (hcf : CallOk E L (cf L)) (hmix : E.P.follows .mixedOrders = true) (hbk : ∀ k t, E.back k = some t → BackC E.P k t) :
    ∀ (n : Nat) (rd : Option Nat) (c : Code) (st st' : St) (o : Out), (rd = none ∨ noRF c = true) → plansOk L.pl c = true → evW E cf n L c st = some (o, st') →
      Walks E L st o st' (fun Q => c.wpIn (FW rd) 0 E.P Q) ∧ ∀ b, c = .loop b → Walks E L st o st' (fun Q => LoopWp rd E.P b Q) := by
  intro n
  induction n with
  | zero => grind[evW]
  | succ n ih =>
    intro rd c st st' o hrf hpl h
    have done : ∀ (o' : Out) {W : (Exit → Act → World → Prop) → Act → World → Prop}, (∀ Q a w, Q o'.toExit a w → W Q a w) → some (o', st) = some (o, st') → Walks E L st o st' W := by
      intro o' W hW e g w a Q hs hQ
      grind[Marks.refl,Ext.refl]
    cases c with
    | skip => exact ⟨done .norm (fun _ _ _ h => wpIn_skip h) h, fun _ e => by grind⟩
    | ret => exact ⟨done .ret (fun _ _ _ h => wpIn_ret h) h, fun _ e => by grind⟩
    | exit id => exact ⟨done (.exit id) (fun _ _ _ h => wpIn_exit h) h, fun _ e => by grind⟩
    | region id ops draw =>
      refine ⟨?_, fun _ e => by grind⟩
      cases draw with
      | false =>
        simp only [evW] at h
        split at h
        · rename_i st1 h1
          simp only [Option.some.injEq, Prod.mk.injEq] at h
          obtain ⟨rfl, rfl⟩ := h
          intro g w a Q hs hQ
          refine wpIn_region ?_
          have := opsA_sound (rd := rd) (Q := Q) hcf ops.toList.length 0 ops.toList st st1 a w g rfl rfl hs h1 (fun a' w' g' q1 q2 q3 q4 => hQ a' w' g' q1 (by grind[Marks.refl]) q3 q4)
          grind[List.range_eq_range']
        grind
      | true =>
        simp only [evW] at h
        simp only [plansOk, Bool.and_eq_true] at hpl
        have run : ∀ (k : Nat) (st1 : St), (match L.pl k with | some p => planOk ops p | none => true) = true → planned E L (cf L) ops st (L.pl k) = some st1 → some (Out.norm, st1) = some (o, st') → Walks E L st o st' (fun Q => (Code.region id ops true).wpIn (FW rd) 0 E.P Q) := by
          intro k st1 hk h1 e
          simp only [Option.some.injEq, Prod.mk.injEq] at e
          obtain ⟨rfl, rfl⟩ := e
          cases hp : L.pl k with
          | none => grind[planned]
          | some p =>
            rw [hp] at h1 hk
            simp only [planned] at h1
            simp only at hk
            intro g w a Q hs hQ
            exact regA_sound hcf hmix hk hs.inv hs.size hs.tmps h1 fun a' w' g' q1 q2 q3 q4 q5 q6 => hQ a' w' g' ⟨q4, q1, q5⟩ (by grind[Marks.refl]) q3 q6
        grind[pickP]
    | seq x y =>
      refine ⟨?_, fun _ e => by grind⟩
      simp only [plansOk, Bool.and_eq_true] at hpl
      have hr1 : rd = none ∨ noRF x = true := hrf.imp (fun x => x) fun e => by grind[noRF]
      have hr2 : rd = none ∨ noRF y = true := hrf.imp (fun x => x) fun e => by grind[noRF]
      simp only [evW] at h
      intro g w a Q hs hQ
      refine wpIn_seq ?_
      split at h
      · rename_i st1 h1
        refine (ih rd x st st1 .norm hr1 hpl.1 h1).1 g w a _ hs fun a' w' g' q1 q2 q3 q4 => ?_
        exact (ih rd y st1 st' o hr2 hpl.2 h).1 g' w' a' _ q1 fun a'' w'' g'' r1 r2 r3 r4 => hQ a'' w'' g'' r1 (q2.trans r3 rfl q3.size r2) (q3.trans r3) (r4.trans q4)
      · rename_i hne
        refine (ih rd x st st' o hr1 hpl.1 h).1 g w a _ hs fun a' w' g' q1 q2 q3 q4 => ?_
        have := hQ a' w' g' q1 q2 q3 q4
        cases o with
        | norm => grind
        | exit id => exact this
        | ret => exact this
    | cond c x y =>
      refine ⟨?_, fun _ e => by grind⟩
      simp only [plansOk, Bool.and_eq_true] at hpl
      simp only [evW] at h
      intro g w a Q hs hQ
      split at h
      · rename_i t ht
        have hv := evalO_sound hs.tmps c
        rw [ht] at hv
        refine wpIn_cond hv.scv_inv ?_
        cases t with
        | true => exact (ih rd x st st' o (hrf.imp (fun x => x) fun e => by grind[noRF]) hpl.1 h).1 g w a _ hs hQ
        | false => exact (ih rd y st st' o (hrf.imp (fun x => x) fun e => by grind[noRF]) hpl.2 h).1 g w a _ hs hQ
      grind
    | block id b =>
      refine ⟨?_, fun _ e => by grind⟩
      simp only [plansOk] at hpl
      simp only [evW] at h
      intro g w a Q hs hQ
      refine wpIn_block ?_
      split at h
      · rename_i j st1 h1
        refine (ih rd b st st1 (.exit j) (hrf.imp (fun x => x) fun e => by assumption) hpl h1).1 g w a _ hs fun a' w' g' q1 q2 q3 q4 => ?_
        show if j = id then Q .normal a' w' else Q (.exit j) a' w'
        cases hj : Nat.beq j id with
        | true =>
          rw [hj] at h
          simp only [cond_true, Option.some.injEq, Prod.mk.injEq] at h
          obtain ⟨rfl, rfl⟩ := h
          rw [if_pos (Nat.eq_of_beq_eq_true hj)]
          exact hQ a' w' g' q1 q2 q3 q4
        | false =>
          rw [hj] at h
          simp only [cond_false, Option.some.injEq, Prod.mk.injEq] at h
          obtain ⟨rfl, rfl⟩ := h
          rw [if_neg (Nat.ne_of_beq_eq_false hj)]
          exact hQ a' w' g' q1 q2 q3 q4
      · rename_i hne
        refine (ih rd b st st' o (hrf.imp (fun x => x) fun e => by assumption) hpl h).1 g w a _ hs fun a' w' g' q1 q2 q3 q4 => ?_
        have := hQ a' w' g' q1 q2 q3 q4
        cases o with
        | norm => exact this
        | exit id => grind
        | ret => exact this
    | loop b =>
      have hpb : plansOk L.pl b = true := by assumption
      have hrb : rd = none ∨ noRF b = true := hrf.imp (fun x => x) fun e => by assumption
      have hlw : Walks E L st o st' (fun Q => LoopWp rd E.P b Q) := by
        simp only [evW] at h
        intro g w a Q hs hQ
        refine LoopWp.round ?_
        split at h
        · rename_i st1 h1
          refine (ih rd b st st1 .norm hrb hpb h1).1 g w a _ hs fun a' w' g' q1 q2 q3 q4 => ?_
          exact (ih rd (.loop b) st1 st' o hrf hpl h).2 b rfl g' w' a' _ q1 fun a'' w'' g'' r1 r2 r3 r4 => hQ a'' w'' g'' r1 (q2.trans r3 rfl q3.size r2) (q3.trans r3) (r4.trans q4)
        · rename_i hne
          refine (ih rd b st st' o hrb hpb h).1 g w a _ hs fun a' w' g' q1 q2 q3 q4 => ?_
          have := hQ a' w' g' q1 q2 q3 q4
          cases o with
          | norm => grind
          | exit id => exact this
          | ret => exact this
      exact ⟨fun g w a Q hs hQ => (hlw g w a Q hs hQ).wp, fun b' e => by grind⟩
    | _ => simp [evW] at h
end Go.Tel
/-
  Bodies and calls: the evaluator's answer is the program's.
-/
namespace Go.Tel
def rvOf (tmps : Array Value) : ResultVar → Sem Value
  | .tmp t => pure (tmps.getD t undef)
  | .cell x t => do loadVar t (← asAddr (tmps.getD x undef))
theorem results_eq (fn : Func) (tmps : Array Value) : results fn tmps = (do let vs ← fn.results.mapM (rvOf tmps); pure (if h : vs.size = 1 then vs[0] else .tuple vs)) := by
  rfl
theorem run_result {E : Env} {g : Ghost} {w : World} {st : St} {a : Act} (hs : Sim E g w st a) {r : ResultVar} {v : AV} (h : resultA E st r = some v) :
    ∃ u, (rvOf a.tmps r).run E.P w = .ok u w ∧ V g w v u := by
  cases r with
  | tmp t =>
    simp [resultA] at h; subst h
    exact ⟨_, rfl, hs.tmps t⟩
  | cell x t =>
    simp only [resultA] at h
    obtain ⟨u, h1, h2⟩ := loadA_sound hs.inv (hs.tmps x) h
    refine ⟨u, ?_, h2⟩
    simp only [rvOf]
    generalize a.tmps.getD x undef = q at h1 ⊢
    simp only [Instr.loadAt] at h1
    cases q with
    | pointer p =>
      cases p with
      | none => simp_all[Instr.sureAddr]
      | some p => assumption
    | _ => simp_all[Instr.sureAddr]
theorem run_results {E : Env} {g : Ghost} {w : World} {st : St} {a : Act} (hs : Sim E g w st a) : ∀ (rs : List ResultVar) (vs : List AV), resultsA E st rs = some vs →
    ∃ us, (rs.mapM (rvOf a.tmps)).run E.P w = .ok us w ∧ VL g w vs us
  | [], vs, h => by
    simp [resultsA] at h; subst h
    exact ⟨[], by simp, .nil⟩
  | r :: rs, vs, h => by
    simp only [resultsA] at h
    split at h
    · rename_i v vs' h1 h2
      simp at h; subst h
      obtain ⟨u, k1, k2⟩ := run_result hs h1
      obtain ⟨us, k3, k4⟩ := run_results hs rs vs' h2
      refine ⟨u :: us, ?_, .cons k2 k4⟩
      simp[*]
    grind
theorem results_sound {E : Env} {g : Ghost} {w : World} {st : St} {a : Act} {fn : Func} {vs : List AV} (hs : Sim E g w st a) (h : resultsA E st fn.results.toList = some vs) :
    ∃ u, (results fn a.tmps).run E.P w = .ok u w ∧ V g w (packA vs) u := by
  obtain ⟨us, h1, h2⟩ := run_results hs _ _ h
  have hr : (results fn a.tmps).run E.P w = .ok (if h : us.toArray.size = 1 then us.toArray[0] else .tuple us.toArray) w := by
    rw [results_eq, Array.mapM_eq_mapM_toList]
    simp [h1]
  refine ⟨_, hr, ?_⟩
  match vs, h2 with
  | [], h2 =>
    have := h2.nil_inv
    grind[packA,V.tuple']
  | [v], h2 =>
    obtain ⟨u, us', rfl, k1, k2⟩ := h2.cases
    have := k2.nil_inv
    grind[packA]
  | v1 :: v2 :: vs', h2 =>
    have hl := h2.len
    simp only [List.length_cons] at hl
    rw [dif_neg (by grind)]
    exact V.tuple' h2
theorem initρ_sound {g : Ghost} {w : World} : ∀ (args : List AV) (vs : List Value) (n t : Nat), VL g w args vs → V g w (initρ args t) ((vs ++ List.replicate n undef)[t]?.getD undef)
  | [], vs, n, t, h => by
    rw [h.nil_inv]
    have : ((([] : List Value) ++ List.replicate n undef)[t]?.getD undef) = undef := by grind
    rw [this]
    exact V.tuple' .nil
  | x :: xs, vs, n, t, h => by
    obtain ⟨u, us, rfl, h1, h2⟩ := h.cases
    cases t with
    | zero => assumption
    | succ t => simpa [initρ] using initρ_sound xs us n t h2
theorem leaves_marks {P : Program} {fn : Func} {tmps : Array Value} {R : Ending → World → Prop} {g : Ghost} : ∀ (Ds : List Nat) (w : World), Ds.Nodup → (∀ D ∈ Ds, w.heap[D]? = some (.deferred (some []))) →
    (∀ w', (∀ k, k ∉ Ds → w'.heap[k]? = w.heap[k]?) → w' = Ds.foldl (fun w D => w.putObj D (.deferred none)) w → LeavesIn (FW none) 0 P fn tmps R [] .returning w') → LeavesInM (FW none) 0 P fn tmps R (Ds.map markD) .returning w
  | [], w, _, _, h => h w (fun _ _ => rfl) rfl
  | D :: Ds, w, hn, hd, h => by
    simp only [List.nodup_cons] at hn
    refine ⟨by simp, .inl ⟨D, _, rfl, run_takeDeferred (hd D (List.mem_cons_self ..)), ?_⟩⟩
    refine leaves_marks (g := g) Ds _ hn.2 (fun D' hD' => ?_) fun w' hw hw' => ?_
    all_goals grind[World.putObj_heap_other]
theorem putAll {E : Env} {L : Lim} {g g' : Ghost} {w : World} {s : Sto} (hbl : ∀ id k, g.blk id = some k → k < w.heap.size) (htl : ∀ t l, g.tok t = some l → l.b < w.heap.size) (hml : ∀ id k, g.mp id = some k → k < w.heap.size) :
    ∀ (Ds : List Nat) (w' : World), (∀ D ∈ Ds, w.heap.size ≤ D ∧ Outs g' D) → Inv E g' w' s → Ext L g w g' w' →
      Inv E g' (Ds.foldl (fun w D => w.putObj D (.deferred none)) w') s ∧ Ext L g w g' (Ds.foldl (fun w D => w.putObj D (.deferred none)) w') ∧
      ∀ x v, V g' w' x v → V g' (Ds.foldl (fun w D => w.putObj D (.deferred none)) w') x v
  | [], _, _, hi, he => ⟨hi, he, fun _ _ h => h⟩
  | D :: Ds, w', hd, hi, he => by
    obtain ⟨a, b⟩ := hd D (List.mem_cons_self ..)
    obtain ⟨r1, r2, r3⟩ := putAll hbl htl hml Ds (w'.putObj D (.deferred none)) (fun D' h => hd D' (List.mem_cons_of_mem _ h)) (hi.putN b _) (he.putN a b hbl htl hml _)
    exact ⟨r1, r2, fun x v h => r3 x v (h.put b _)⟩
theorem bodyA_sound {E : Env} {cf : Lim → CallF} {n : Nat} {L : Lim} {f : FuncId} {fn : Func} {args : List AV} {s s' : Sto} {v : AV} {g : Ghost} {w : World} {vs : List Value} {body : Code} (hcf : CallOk E L (cf L)) (hmix : E.P.follows .mixedOrders = true) (hbk : ∀ k t, E.back k = some t → BackC E.P k t)
    (hfn : E.P.funcs[f]? = some fn) (hbody : fn.body = some body) (hpl : plansOk L.pl body = true) (hN : args.length ≤ fn.ntmps)
    (hI : Inv E g w s) (hargs : VL g w args vs) (h : bodyA E cf n fn L args s = some (v, s')) :
    Calls E.P f vs.toArray w fun e w' => ∃ v' g', e = .returned v' ∧ V g' w' v v' ∧ Ext L g w g' w' ∧ Inv E g' w' s' := by
  unfold bodyA at h
  rw [hbody] at h
  simp only at h
  refine (callsIn_wide (n := 0)).1 (callsIn_of_wp_marks (F := FW none) hfn hbody trivial ?_ rfl)
  have hs : Sim E g w ⟨fn.ntmps, initρ args, s⟩ { tmps := vs.toArray ++ Array.replicate (fn.ntmps - vs.toArray.size) undef, defers := [] } := by
    refine ⟨hI, ?_, fun t => ?_⟩
    · have := hargs.len
      grind
    · have := initρ_sound args vs (fn.ntmps - vs.length) t hargs
      simp_all[Array.getElem?_append,List.getElem?_append,Array.getElem?_replicate,List.getElem?_replicate]
  split at h
  · grind
  · rename_i o st hne hev
    split at h
    · rename_i rs hrs
      simp only [Option.some.injEq, Prod.mk.injEq] at h
      obtain ⟨rfl, rfl⟩ := h
      refine (evW_sound hcf hmix hbk n none body _ _ _ (.inl rfl) hpl hev).1 g w _ _ hs fun a' w' g' q1 q2 q3 q4 => ?_
      have fin : LeavesInM (FW none) 0 E.P fn a'.tmps (fun e w' => ∃ v' g', e = .returned v' ∧ V g' w' (packA rs) v' ∧ Ext L g w g' w' ∧ Inv E g' w' st.s) a'.defers .returning w' := by
        obtain ⟨Ds, d1, d2, d3⟩ := q2
        simp only [List.append_nil] at d1
        rw [d1]
        refine leaves_marks (g := g') Ds w' d2 (fun D hD => (d3 D hD).2.1) fun w'' _ hw'' => ?_
        obtain ⟨r1, r2, r3⟩ := putAll (E := E) (L := L) (g := g) (g' := g') (w := w) (s := st.s) (fun id k hk => hI.blkLt hk) (fun t l hl => hI.tokLt hl) (fun id k hk => hI.mpLt hk) Ds w' (fun D hD => ⟨(d3 D hD).1, (d3 D hD).2.2⟩) q1.inv q3
        rw [← hw''] at r1 r2 r3
        have q1' : Sim E g' w'' st a' := ⟨r1, q1.size, fun t => r3 _ _ (q1.tmps t)⟩
        obtain ⟨u, x1, x2⟩ := results_sound q1' hrs
        exact ⟨u, x1, u, g', rfl, x2, r2, r1⟩
      cases o with
      | norm => exact fin
      | exit id => grind
      | ret => exact fin
    grind
  grind
theorem Ext.lim {L L' : Lim} {g g' : Ghost} {w w' : World} (h : Ext L g w g' w') (h1 : L'.ro = L.ro) (h2 : L'.rt = L.rt) : Ext L' g w g' w' :=
  { os := h.os, tape := h.tape, output := h.output, size := h.size, mono := h.mono, cell := h.cell, blk := h.blk, dead := h.dead, shape := h.shape, tok := h.tok, out := h.out, newB := h.newB, newT := h.newT, pend := h.pend, mp := h.mp, newM := h.newM
    keepM := fun id b hb => ⟨fun hlt => (h.keepM id b hb).1 (by omega), (h.keepM id b hb).2⟩
    keepB := fun id b hb hlt => h.keepB id b hb (by omega)
    keepT := fun t l hl hlt => h.keepT t l hl (by omega) }
def ToldOk (E : Env) (f : FuncId) (T : Lim → List AV → Sto → Option (AV × Sto)) : Prop :=
  ∀ (L : Lim) (args : List AV) (s s' : Sto) (v : AV) (g : Ghost) (w : World) (vs : List Value), T L args s = some (v, s') → Inv E g w s → VL g w args vs →
    (∃ fn, E.P.funcs[f]? = some fn ∧ fn.body.isSome = true ∧ (fn.name == "runtime.NumGoroutine") = false) ∧
    Calls E.P f vs.toArray w fun e w' => ∃ v' g', e = .returned v' ∧ V g' w' v v' ∧ Ext L g w g' w' ∧ Inv E g' w' s'
structure Good (E : Env) : Prop where
  mix : E.P.follows .mixedOrders = true
  plans : ∀ (f : FuncId) (fn : Func) (body : Code), E.P.funcs[f]? = some fn → fn.body = some body → plansOk (E.plan f) body = true
  names : ∀ (f : FuncId) (fn : Func), E.P.funcs[f]? = some fn → fn.body.isSome = true → (fn.name == "runtime.NumGoroutine") = false
  tolds : ∀ f T, E.told f = some T → ToldOk E f T
  backs : ∀ k t, E.back k = some t → BackC E.P k t
  clones : ∀ f, E.clone f = true → E.told f = none → (∃ fn, E.P.funcs[f]? = some fn ∧ fn.body.isSome = true) ∧
    ∀ (w : World) (base : Option Addr) (cap : Nat), Calls E.P f #[.slice base 0 cap] w fun e w' => ∃ b', e = .returned (.slice b' 0 0) ∧ (w' = w ∨ ∃ o, w' = objW w o)
theorem enterA_sound {E : Env} {cf : Lim → CallF} {n : Nat} {L : Lim} {f : FuncId} {fn : Func} {args : List AV} {s s' : Sto} {v : AV} {g : Ghost} {w : World} {vs : List Value} {body : Code} (hG : Good E) (hcf : ∀ L, CallOk E L (cf L))
    (hfn : E.P.funcs[f]? = some fn) (hbody : fn.body = some body) (hI : Inv E g w s) (hargs : VL g w args vs) (h : enterA E cf n L f fn args s = some (v, s')) :
    Calls E.P f vs.toArray w fun e w' => ∃ v' g', e = .returned v' ∧ V g' w' v v' ∧ Ext L g w g' w' ∧ Inv E g' w' s' := by
  have hpl := hG.plans f fn body hfn hbody
  unfold enterA at h
  split at h
  · rename_i hN
    have pure : ∀ args', closeL [] 0 0 args = some args' → pureA E cf n f fn args' s = some (v, s') → Calls E.P f vs.toArray w fun e w' => ∃ v' g', e = .returned v' ∧ V g' w' v v' ∧ Ext L g w g' w' ∧ Inv E g' w' s' := by
      intro args' hcl h
      have hargs' : VL (Ghost.bare g.I) w args' vs := closeL_sound RefOk.nil Keeps.bare _ _ _ hcl hargs
      have hN' : args'.length ≤ fn.ntmps := by rw [hargs'.len, ← hargs.len]; omega
      unfold pureA at h
      split at h
      · rename_i x s1 hb
        split at h
        · rename_i y hy
          simp only [Option.some.injEq, Prod.mk.injEq] at h
          obtain ⟨rfl, rfl⟩ := h
          refine (bodyA_sound (hcf _) hG.mix hG.backs hfn hbody hpl hN' hI.bare hargs' hb).mono ?_
          rintro e w' ⟨v', g', rfl, hv, hx, hi⟩
          obtain ⟨r1, r2, r3, r4⟩ := ret_pure (L := L) hI hx hi
          grind[close_sound]
        grind
      grind
    have write : ∀ L', L'.ro = L.ro → L'.rt = L.rt → L'.pl = E.plan f → (match bodyA E cf n fn L' args s with | some (v, s') => keepA (L.rr f) s.bs.length v s' | none => none) = some (v, s') →
        Calls E.P f vs.toArray w fun e w' => ∃ v' g', e = .returned v' ∧ V g' w' v v' ∧ Ext L g w g' w' ∧ Inv E g' w' s' := by
      intro L' e1 e2 e3 h
      split at h
      · rename_i x s1 hb
        refine (bodyA_sound (hcf _) hG.mix hG.backs hfn hbody (by grind) hN hI hargs hb).mono ?_
        grind[keepA_sound]
      grind
    generalize E.kind f = k at h
    cases k with
    | esc =>
      refine (bodyA_sound (hcf _) hG.mix hG.backs hfn hbody hpl hN hI hargs h).mono ?_
      rintro e w' ⟨v', g', rfl, hv, hx, hi⟩
      exact ⟨v', g', rfl, hv, hx.lim rfl rfl, hi⟩
    | rd =>
      simp only at h
      split at h
      · grind
      · split at h
        · rename_i x s1 hb
          split at h
          · rename_i y hy
            simp only [Option.some.injEq, Prod.mk.injEq] at h
            obtain ⟨rfl, rfl⟩ := h
            refine (bodyA_sound (hcf _) hG.mix hG.backs hfn hbody hpl hN hI hargs hb).mono ?_
            rintro e w' ⟨v', g', rfl, hv, hx, hi⟩
            obtain ⟨r1, r2, r3, r4⟩ := ret_rd (L := L) hI rfl rfl hx hi
            grind[close_sound]
          grind
        grind
    | im =>
      grind[noId_closeL]
    | st => grind
  grind
theorem enter_ok {E : Env} (hG : Good E) {n : Nat} {cf : Lim → CallF} (hcf : ∀ L, CallOk E L (cf L)) (L : Lim) :
    CallOk E L (fun f args s => match E.P.funcs[f]? with
      | some fn => bif E.clone f then toldA E L f args s (enterA E cf n L f fn args s) else enterA E cf n L f fn args s
      | none => none) := by
    intro f args s s' v g w vs h hI hargs
    simp only at h
    split at h
    · rename_i fn hfn
      have enter : enterA E cf n L f fn args s = some (v, s') → (∃ fn, E.P.funcs[f]? = some fn ∧ fn.body.isSome = true ∧ (fn.name == "runtime.NumGoroutine") = false) ∧
          Calls E.P f vs.toArray w fun e w' => ∃ v' g', e = .returned v' ∧ V g' w' v v' ∧ Ext L g w g' w' ∧ Inv E g' w' s' := by
        intro h
        cases hb : fn.body with
        | none =>
          grind[enterA,bodyA,pureA]
        | some body =>
          refine ⟨⟨fn, hfn, by grind, hG.names f fn hfn (by grind)⟩, ?_⟩
          grind[enterA_sound]
      cases hcl : E.clone f with
      | true =>
        rw [hcl] at h
        simp only [cond_true, toldA] at h
        cases ht : E.told f with
        | some T =>
          rw [ht] at h
          exact hG.tolds f T ht L args s s' v g w vs h hI hargs
        | none =>
          rw [ht] at h
          simp only at h
          cases he : emptyArg args with
          | false => grind
          | true =>
            rw [he] at h
            simp only [cond_true, Option.some.injEq, Prod.mk.injEq] at h
            obtain ⟨rfl, rfl⟩ := h
            obtain ⟨⟨fn', k1, k2⟩, k3⟩ := hG.clones f hcl ht
            refine ⟨⟨fn', k1, k2, hG.names f fn' k1 k2⟩, ?_⟩
            unfold emptyArg at he
            split at he
            · rename_i x
              obtain ⟨u, us, rfl, h1, h2⟩ := hargs.cases
              have := h2.nil_inv
              subst this
              split at he
              · rename_i hr
                obtain ⟨base, cap, b, o, sz, q, rfl, _, _⟩ := rowsOf_sound h1 hr
                refine (k3 w base cap).mono ?_
                rintro e w' ⟨b', rfl, hw⟩
                have hv : ∀ g w', V g w' (.capped []) (.slice b' 0 0) := fun g w' => V.capped (rows := []) (b := 0) (o := 0) (sz := 0) (f := fun _ _ => undef) RowsAt.nil
                rcases hw with rfl | ⟨ob, rfl⟩
                · grind[Ext.refl]
                · obtain ⟨r1, r2⟩ := Inv.pushO (L := L) hI ob
                  grind
              grind
            grind
      | false =>
        grind
    grind
theorem callN_sound {E : Env} (hG : Good E) : ∀ (n : Nat) (L : Lim), CallOk E L (callN E n L)
  | 0, L => by intro f args s s' v g w vs h; grind[callN]
  | n + 1, L => fun f args s s' v g w vs h hI hargs => enter_ok hG (n := n) (callN_sound hG n) L f args s s' v g w vs (by assumption) hI hargs
end Go.Tel
