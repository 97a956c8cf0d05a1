/-
  An operation of either kind, as the walk needs it; blocks laid ahead; a row that is appended and then written.
-/
import Derived.Test.YtghaphbkhdhmdaaGreatDoorEvO
import Derived.OrdersIn
import Derived.RangeFuncRecord
set_option linter.unusedSimpArgs false
set_option linter.unusedVariables false
namespace Go.Tel

/-- No fence; in a round of the loop that the record at 'rd' is of, or in none. -/
def FW (rd : Option Nat) : Fence := { Fence.wide with round := rd }

theorem nodefer {P : Program} {ρ : Operand → Value} {o : Oper} {w w' : World} {x : Next} (hr : (execOp ρ o).run P w = .ok x w') (hx : ∀ d, x ≠ .defer d) : ∀ c, o.op ≠ .defer c := by
  intro c e
  unfold execOp at hr
  rw [e] at hr
  simp only [Sem.run_bind] at hr
  cases hq : (resolve ρ c o.type).run P w with
  | ok d w1 =>
    rw [hq] at hr
    simp only [Result.andThen_ok, Sem.run_pure, Result.ok.injEq] at hr
    exact hx d hr.1.symm
  | halt h w1 => rw [hq] at hr; simp [Result.andThen] at hr

section
variable {rd : Option Nat} {P : Program} {o : Oper} {a : Act} {w w' : World} {K : Act → World → Prop} {Q : Exit → Act → World → Prop}

theorem wpIn_of_run {v : Value} (hr : (execOp a.eval o).run P w = .ok (.value v) w') (h : K (a.put o.dst v) w') : o.wpIn (FW rd) 0 P a w K Q :=
  ⟨fun _ _ => trivial, by rw [Oper.semAt_eq _ _ _ (nodefer hr fun d e => by cases e), hr]; exact h⟩

theorem wpIn_of_skip (hr : (execOp a.eval o).run P w = .ok .skip w') (h : K (a.put o.dst undef) w') : o.wpIn (FW rd) 0 P a w K Q :=
  ⟨fun _ _ => trivial, by rw [Oper.semAt_eq _ _ _ (nodefer hr fun d e => by cases e), hr]; exact h⟩

theorem wpIn_of_enter {f : FuncId} {args : Array Value} (hr : (execOp a.eval o).run P w = .ok (.enter f args) w') (h : Calls P f args w' fun e w'' => ∃ v, e = .returned v ∧ K (a.put o.dst v) w'') : o.wpIn (FW rd) 0 P a w K Q := by
  refine ⟨fun _ _ => trivial, ?_⟩
  rw [Oper.semAt_eq _ _ _ (nodefer hr fun d e => by cases e), hr]
  refine ⟨fun e => by simp [FW, Fence.wide] at e, ?_⟩
  refine (callsIn_wide (n := 0 - 1)).2 (h.mono ?_)
  rintro e w'' ⟨v, rfl, hk⟩
  exact hk

end

/-- What is asked of calls. -/
def CallOk (E : Env) (L : Lim) (cf : CallF) : Prop :=
  ∀ (f : FuncId) (args : List AV) (s s' : Sto) (v : AV) (g : Ghost) (w : World) (vs : List Value), cf f args s = some (v, s') → Inv E g w s → VL g w args vs →
    (∃ fn, E.P.funcs[f]? = some fn ∧ fn.body.isSome = true ∧ (fn.name == "runtime.NumGoroutine") = false) ∧
    Calls E.P f vs.toArray w fun e w' => ∃ v' g', e = .returned v' ∧ V g' w' v v' ∧ Ext L g w g' w' ∧ Inv E g' w' s'

theorem V.func_inv {g : Ghost} {w : World} {fn : Fn} {first captured : List AV} {v : Value} (h : V g w (.func fn first captured) v) :
    ∃ vs us, v = .func fn (List.toArray vs) (List.toArray us) ∧ VL g w first vs ∧ VL g w captured us := by
  cases h with | func hl hm h k => exact ⟨_, _, rfl, ⟨hl, h⟩, ⟨hm, k⟩⟩

theorem actA_sound {E : Env} {L : Lim} {cf : CallF} {g : Ghost} {w : World} {s s' : Sto} {ρ : Nat → AV} {a : Act} {o : Oper} {v : AV} {K : Act → World → Prop} {Q : Exit → Act → World → Prop}
    (hcf : CallOk E L cf) (hI : Inv E g w s) (hρ : ∀ t, V g w (ρ t) (a.tmps.getD t undef)) (h : actA E L cf ρ s o = some (v, s'))
    (hk : ∀ v' w' g', V g' w' v v' → Ext L g w g' w' → Inv E g' w' s' → K (a.put o.dst v') w') {rd : Option Nat} : o.wpIn (FW rd) 0 E.P a w K Q := by
  have fromOp : opA E L ρ s o = some (v, s') → o.wpIn (FW rd) 0 E.P a w K Q := by
    intro h
    obtain ⟨v', w', g', hg, hv, he, hi⟩ := opA_sound hI hρ h
    rcases hg with hg | ⟨hg, rfl⟩
    · exact wpIn_of_run hg (hk v' w' g' hv he hi)
    · exact wpIn_of_skip hg (hk undef w' g' hv he hi)
  rw [actA_eq] at h
  unfold actO at h
  split at h
  · rename_i c hc
    split at h
    · exact fromOp h
    · split at h
      · rename_i f args hcal
        unfold calleeA at hcal
        split at hcal
        · rename_i x hx
          split at hcal
          · rename_i gf first captured hev
            simp only [Option.some.injEq, Prod.mk.injEq] at hcal
            obtain ⟨rfl, rfl⟩ := hcal
            have hfv := evalO_sound hρ x
            rw [hev] at hfv
            obtain ⟨vs, us, hval, h1, h2⟩ := hfv.func_inv
            have hargs := map_evals hρ c.args.toList
            obtain ⟨⟨fn, hfn, hbody, hname⟩, hcalls⟩ := hcf _ _ _ _ _ _ _ _ h hI ((h1.append hargs).append h2)
            have hrun : (execOp a.eval o).run E.P w = .ok (.enter gf (vs ++ List.map a.eval c.args.toList ++ us).toArray) w := by
              obtain ⟨dst, op, type, pos, after, guard⟩ := o
              simp only at hc
              subst hc
              have hargs' : (vs.toArray ++ c.args.map a.eval) ++ us.toArray = (vs ++ List.map a.eval c.args.toList ++ us).toArray := by apply Array.ext'; simp
              have hnb : fn.body.isNone = false := by cases hb : fn.body <;> simp_all
              simp only [execOp, resolve, hx, hval, Deferred.ofValue, Sem.run_bind, Sem.run_pure, Result.andThen_ok, invoke, callFunc, hargs', run_program, hfn, hname, hnb, Bool.false_eq_true, if_false]
            refine wpIn_of_enter hrun (Calls.mono hcalls ?_)
            rintro e w' ⟨v', g', rfl, hv, he, hi⟩
            exact ⟨v', rfl, hk v' w' g' hv he hi⟩
          · simp at hcal
        · simp at hcal
      · simp at h
  · exact fromOp h

theorem guardOk_sound {g : Ghost} {w : World} {ρ : Nat → AV} {a : Act} (hρ : ∀ t, V g w (ρ t) (a.tmps.getD t undef)) {ops : Array Oper} {o : Oper} {b : Bool} (h : guardOk ops ρ o = some b) :
    Region.wanted o (yielded ops a.tmps) = b := by
  unfold guardOk guardTmp at h
  unfold Region.wanted
  cases hg : o.guard with
  | none => rw [hg] at h; simp at h; simp [h]
  | some jw =>
    obtain ⟨j, want⟩ := jw
    rw [hg] at h
    simp only at h ⊢
    unfold yielded
    cases hp : ops[j]? with
    | none => rw [hp] at h; simp at h; subst h; simp
    | some p =>
      rw [hp] at h
      simp only [Option.bind_some] at h ⊢
      cases hd : p.dst with
      | none => rw [hd] at h; simp at h; subst h; simp
      | some d =>
        rw [hd] at h
        simp only [Option.bind_some] at h ⊢
        have hv := hρ d
        split at h
        · rename_i c hc
          rw [hc] at hv
          have hv := hv.scv_inv
          simp at h
          subst h
          cases hx : a.tmps[d]? with
          | none => simp [hx, undef] at hv
          | some y => simp [hx] at hv; subst hv; simp
        · rename_i hc
          rw [hc] at hv
          obtain ⟨vs, hu, hvl⟩ := hv.tuple_inv
          have := hvl.nil_inv
          subst this
          simp at h
          subst h
          cases hx : a.tmps[d]? with
          | none => simp
          | some y => simp [hx] at hu; subst hu; simp
        · simp at h

/-! ### Blocks laid ahead -/

def Ghost.withPend (g : Ghost) (q : Nat → Prop) : Ghost := { g with pend := q }

theorem V.withPend {g : Ghost} {w : World} {q : Nat → Prop} {x : AV} {v : Value} (h : V g w x v) : V (g.withPend q) w x v := by
  induction h with
  | pv h => exact .pv h
  | ptr h => exact .ptr h
  | ptrD h => exact .ptrD h
  | gptr gl off => exact .gptr gl off
  | eptr off f h => exact .eptr off f h
  | capped h => exact .capped h
  | own h hcap ht hn hf => exact .own h hcap ht hn hf
  | ref h hcap hs hn => exact .ref h hcap hs hn
  | refD h => exact .refD h
  | junk => exact .junk
  | mref h => exact .mref h
  | bz h hs => exact .bz h hs
  | bzD h => exact .bzD h
  | func hl hm _ _ ih ik => exact .func hl hm ih ik
  | iface _ ih => exact .iface ih
  | agg hl _ ih => exact .agg hl ih
  | tuple hl _ ih => exact .tuple hl ih

theorem VL.withPend {g : Ghost} {w : World} {q : Nat → Prop} {cs : List AV} {vs : List Value} (h : VL g w cs vs) : VL (g.withPend q) w cs vs :=
  ⟨h.len, fun i c v h1 h2 => (h.at_ i c v h1 h2).withPend⟩

theorem Ext.withPend {L : Lim} {g g' : Ghost} {w w' : World} {q : Nat → Prop} (h : Ext L g w g' w') (hq : ∀ id, g.pend id → q id) : Ext L g w (g'.withPend q) w' :=
  { os := h.os, tape := h.tape, output := h.output, size := h.size, mono := h.mono, cell := h.cell, blk := h.blk, dead := h.dead, shape := h.shape, tok := h.tok, keepB := h.keepB, keepT := h.keepT,
    out := h.out, mp := h.mp, keepM := h.keepM, newM := h.newM, newB := h.newB, newT := h.newT, pend := hq }

theorem Inv.withPend {E : Env} {g : Ghost} {w : World} {s : Sto} {q : Nat → Prop} (h : Inv E g w s) (hq : ∀ id, q id → id < s.bs.length ∧ g.blk id = none ∧ ¬ g.dead id) (hall : ∀ id, g.pend id → q id) (hm : ∀ id b, g.mp id = some b → ¬ q id) : Inv E (g.withPend q) w s :=
  { blkN := h.blkN, deadN := h.deadN, blkI := h.blkI, deadE := h.deadE, tokN := h.tokN, tokL := h.tokL, tok := h.tok, tokI := h.tokI, injB := h.injB, injT := h.injT, injBT := h.injBT, Ilt := h.Ilt,
    pendN := hq
    allB := fun id hid => (h.allB id hid).imp (fun x => x) (fun x => x.imp (fun y => y) (fun y => y.imp (hall id) (fun z => z)))
    mp := h.mp
    mpX := fun id b hb => ⟨(h.mpX id b hb).1, (h.mpX id b hb).2.1, hm id b hb⟩
    injM := h.injM
    blk := fun id b hb => by
      obtain ⟨cs, vs, e, h1, h2, h3, h4⟩ := h.blk id b hb
      exact ⟨cs, vs, e, h1, h2, h3, h4.withPend⟩
    glob := h.glob }

/-- A block more in the store, not yet in the heap. -/
theorem Inv.reserve {E : Env} {g : Ghost} {w : World} {s : Sto} (h : Inv E g w s) (cs : List AV) :
    Inv E (g.withPend fun id => g.pend id ∨ id = s.bs.length) w { s with bs := s.bs ++ [cs] } := by
  have hlt : ∀ id, id < s.bs.length → (s.bs ++ [cs])[id]? = s.bs[id]? := fun id hid => List.getElem?_append_left hid
  exact {
    blkN := fun id b hb => by have := h.blkN id b hb; simp; omega
    deadN := fun id hd => by have := h.deadN id hd; simp; omega
    blkI := h.blkI
    deadE := fun id hd => (hlt id (h.deadN id hd)).trans (h.deadE id hd)
    tokN := h.tokN, tokL := h.tokL, tok := h.tok, tokI := h.tokI, injB := h.injB, injT := h.injT, injBT := h.injBT, Ilt := h.Ilt
    allB := fun id hid => by
      by_cases e : id = s.bs.length
      · exact .inr (.inr (.inl (.inr e)))
      · rcases h.allB id (by simp at hid; omega) with q | q | q | q
        · exact .inl q
        · exact .inr (.inl q)
        · exact .inr (.inr (.inl (.inl q)))
        · exact .inr (.inr (.inr q))
    mp := h.mpKeep (fun _ _ hb' => hlt _ (h.mpN hb')) (fun _ _ _ => rfl)
    mpX := fun id b hb => ⟨(h.mpX id b hb).1, (h.mpX id b hb).2.1, fun hp => hp.elim (h.mpX id b hb).2.2 (fun e => by have := h.mpN hb; omega)⟩
    injM := h.injM
    pendN := fun id hp => by
      rcases hp with hp | rfl
      · obtain ⟨a, b, c⟩ := h.pendN id hp
        exact ⟨by simp; omega, b, c⟩
      · refine ⟨by simp, ?_, h.fresh⟩
        cases hb : g.blk s.bs.length with
        | none => exact hb
        | some b => exact absurd (h.blkN _ b hb) (Nat.lt_irrefl _)
    blk := fun id b hb => by
      obtain ⟨vcs, vs, e, h1, h2, h3, h4⟩ := h.blk id b hb
      exact ⟨vcs, vs, e, (hlt id (h.blkN id b hb)).trans h1, h2, h3, h4.withPend⟩
    glob := h.glob }

/-- A block of the store comes into the heap. -/
theorem Inv.fill {E : Env} {L : Lim} {g : Ghost} {w : World} {s : Sto} (h : Inv E g w s) {id : Nat} {q : Nat → Prop} (hq : ∀ i, q i ↔ g.pend i ∧ i ≠ id) {cs : List AV} {vs : List Value} (e : TypeId) (hid : id < s.bs.length) (hnb : g.blk id = none) (hnd : ¬ g.dead id) (hnm : ∀ b, g.mp id ≠ some b)
    (hcs : s.bs[id]? = some cs) (hle : cs.length ≤ vs.length) (hl : VL g w cs (vs.take cs.length)) :
    Ext L (g.withPend q) w ((g.withPend q).addB id w.heap.size hnd) (pushW w vs e) ∧ Inv E ((g.withPend q).addB id w.heap.size hnd) (pushW w vs e) s := by
  have hsz : (pushW w vs e).heap.size = w.heap.size + 1 := by simp [pushW]
  have hne : ∀ i b, g.blk i = some b → i ≠ id := fun i b hb e => by rw [e, hnb] at hb; simp at hb
  have hbk : ∀ i b, g.blk i = some b → ((g.withPend q).addB id w.heap.size hnd).blk i = some b := fun i b hb => (if_neg (hne i b hb)).trans hb
  have inv : ∀ i b, ((g.withPend q).addB id w.heap.size hnd).blk i = some b → (i = id ∧ b = w.heap.size) ∨ g.blk i = some b := fun i b hb => by
    simp only [Ghost.addB] at hb
    split at hb
    · rename_i hi; simp at hb; exact .inl ⟨hi, hb.symm⟩
    · exact .inr hb
  have ext : Ext L (g.withPend q) w ((g.withPend q).addB id w.heap.size hnd) (pushW w vs e) := {
    os := rfl, tape := rfl, output := rfl, size := by rw [hsz]; exact Nat.le_succ _
    mono := fun _ _ hi => hi
    cell := fun k o hi => cell?_congr (heap_pushW_lt (h.Ilt k o hi)) o
    blk := fun i b hb => .inl (hbk i b hb)
    dead := fun _ hd => hd
    shape := fun i b hb _ => shape_congr (heap_pushW_lt (h.blkLt hb))
    tok := fun _ l hl => ⟨l, hl, .inl rfl⟩
    keepB := fun i b hb _ => ⟨hbk i b hb, heap_pushW_lt (h.blkLt hb)⟩
    keepT := fun _ l hl _ => ⟨hl, heap_pushW_lt (h.tokLt hl), fun _ hi => hi⟩
    out := fun b hb _ _ _ => ⟨heap_pushW_lt hb, fun _ hi => hi⟩
    mp := fun _ _ hb => hb
    keepM := fun _ b' hb' => ⟨fun _ => heap_pushW_lt (h.mpLt hb'), fun _ ho => ho⟩
    newM := fun id' _ hb _ => ⟨id', hb⟩
    newB := fun i b hb hlt => by
      rcases inv i b hb with ⟨_, rfl⟩ | hb
      · omega
      · exact ⟨i, hb⟩
    newT := fun _ l hl _ => ⟨l, hl, rfl⟩
    pend := fun _ hp => hp }
  refine ⟨ext, ?_⟩
  exact {
    blkN := fun i b hb => by
      rcases inv i b hb with ⟨rfl, _⟩ | hb
      · exact hid
      · exact h.blkN i b hb
    deadN := h.deadN
    deadE := h.deadE
    blk := fun i b hb => by
      rcases inv i b hb with ⟨rfl, rfl⟩ | hb
      · exact ⟨cs, vs, e, hcs, by rw [heap_pushW]; exact if_pos rfl, hle, hl.withPend.mono ext⟩
      · obtain ⟨cs', vs', e', h1, h2, h3, h4⟩ := h.blk i b hb
        exact ⟨cs', vs', e', h1, (heap_pushW_lt (h.blkLt hb)).trans h2, h3, h4.withPend.mono ext⟩
    blkI := fun i b o hb hi => by
      rcases inv i b hb with ⟨rfl, rfl⟩ | hb
      · exact absurd (h.Ilt _ o hi) (Nat.lt_irrefl _)
      · exact h.blkI i b o hb hi
    tokN := h.tokN
    tokL := h.tokL
    tok := fun t l hl => by
      obtain ⟨vs', e', h1, h2⟩ := h.tok t l hl
      exact ⟨vs', e', (heap_pushW_lt (h.tokLt hl)).trans h1, h2⟩
    tokI := h.tokI
    injB := fun i i' b hb hb' => by
      rcases inv i b hb with ⟨rfl, rfl⟩ | hb
      · rcases inv i' _ hb' with ⟨rfl, _⟩ | hb'
        · rfl
        · exact absurd (h.blkLt hb') (Nat.lt_irrefl _)
      · rcases inv i' b hb' with ⟨_, e⟩ | hb'
        · exact absurd (h.blkLt ‹g.blk i = some b›) (by omega)
        · exact h.injB i i' b ‹g.blk i = some b› hb'
    injT := h.injT
    injBT := fun i b t l hb hl => by
      rcases inv i b hb with ⟨rfl, rfl⟩ | hb
      · exact fun e => absurd (h.tokLt hl) (by omega)
      · exact h.injBT i b t l hb hl
    Ilt := fun b o hi => by have := h.Ilt b o hi; rw [hsz]; omega
    allB := fun i hi => by
      by_cases e : i = id
      · exact .inl ⟨_, if_pos e⟩
      · rcases h.allB i hi with ⟨b, hb⟩ | x | x | x
        · exact .inl ⟨b, (if_neg e).trans hb⟩
        · exact .inr (.inl x)
        · exact .inr (.inr (.inl ((hq i).2 ⟨x, e⟩)))
        · exact .inr (.inr (.inr x))
    mp := h.mpKeep (fun _ _ _ => rfl) (fun _ _ hb' => heap_pushW_lt (h.mpLt hb'))
    mpX := fun i b hb => by
      obtain ⟨a1, a2, a3⟩ := h.mpX i b hb
      have hne : i ≠ id := fun e => hnm b (by rw [← e]; exact hb)
      exact ⟨(if_neg hne).trans a1, a2, fun hp => a3 ((hq i).1 hp).1⟩
    injM := h.injM
    pendN := fun i hp => by
      obtain ⟨h1, h2⟩ := (hq i).1 hp
      obtain ⟨a, b, c⟩ := h.pendN i h1
      exact ⟨a, (if_neg h2).trans b, c⟩
    glob := fun gl row hr j c hj => by
      obtain ⟨v, h1, h2, h3⟩ := h.glob gl row hr j c hj
      exact ⟨v, h1, by rw [ext.cell _ _ h1]; exact h2, h3.mono ext.mono ext.cell⟩ }

theorem hcells_sound {E : Env} {g : Ghost} {w : World} {ρ : Nat → AV} {a : Act} {o : Oper} {cs : List AV} {mk : Nat → AV} (hρ : ∀ t, V g w (ρ t) (a.tmps.getD t undef)) (h : hcells E ρ o = some (cs, mk)) :
    ∃ (vs : List Value) (e : TypeId) (mv : Nat → Value), (execOp a.eval o).run E.P w = .ok (.value (mv w.heap.size)) (pushW w vs e) ∧ VL g w cs vs ∧
      (∀ (g' : Ghost) (w' : World) id b, g'.blk id = some b → w'.shape? b = some (e, vs.length) → V g' w' (mk id) (mv b)) ∧ ∀ id, idOf (mk id) = some id := by
  obtain ⟨dst, op, type, pos, after, guard⟩ := o
  cases op with
  | alloc t =>
    simp only [hcells] at h
    split at h
    · rename_i z hz
      cases hbz : E.bz t with
      | true => rw [hbz] at h; simp at h
      | false =>
      rw [hbz] at h
      simp only [cond_false, Option.some.injEq, Prod.mk.injEq] at h
      obtain ⟨rfl, rfl⟩ := h
      obtain ⟨i, zv, hi, hzv, hrun, hvl⟩ := zeroOf_sound (g := g) (w := w) hz
      refine ⟨_, t, fun b => .pointer (some ⟨b, 0, none⟩), ?_, hvl, fun g' w' id b hb _ => .ptr hb, fun id => rfl⟩
      simp [execOp, Instr.alloc, hrun, newVar, newRow, pushW]
    · simp at h
  | makeSlice t l c =>
    simp only [hcells] at h
    split at h
    · rename_i elem lv cv hu hl hc
      split at h
      · rename_i i z hi hz
        split at h
        · rename_i hcond
          obtain ⟨h1, rfl, h3, h4, h5, h6⟩ := hcond
          simp only [Option.some.injEq, Prod.mk.injEq] at h
          obtain ⟨rfl, rfl⟩ := h
          have hl1 := evalO_sound hρ l
          have hc1 := evalO_sound hρ c
          rw [hl] at hl1
          rw [hc] at hc1
          have hl1 := hl1.scv_inv
          have hc1 := hc1.scv_inv
          obtain ⟨i', zv, hi', hzv, hrun, hvl⟩ := zeroOf_sound (g := g) (w := w) hz
          have : i' = i := by rw [hi] at hi'; simpa using hi'.symm
          subst this
          have hzs : zv.cells.size = i'.size := by rw [← Array.length_toList, ← hvl.len]; exact h5
          have hr := makeSlice_run (w := w) hu hi hrun hzs h6 (by omega) (Int.le_refl _) h3 h4
          refine ⟨_, elem, fun b => .slice (some ⟨b, 0, none⟩) lv.toNat lv.toNat, ?_, hvl.repl lv.toNat, fun g' w' id b hb hs => ?_, fun id => rfl⟩
          · simp only [execOp, hl1, hc1, Sem.run_bind, hr, Result.andThen_ok, Sem.run_pure]
          · exact .ref hb (Nat.le_refl _) hs (by rw [repl_length, Array.length_toList, hzs]; omega)
        · simp at h
      · simp at h
    · simp at h
  | _ => simp [hcells] at h

end Go.Tel
