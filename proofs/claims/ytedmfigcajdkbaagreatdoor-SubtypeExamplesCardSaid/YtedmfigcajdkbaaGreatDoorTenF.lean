/-
  From an evaluation to the contract that a row asks for; what the listed variables hold.
-/
import Derived.Test.YtedmfigcajdkbaaGreatDoorTenE
import Derived.ChangeSame
import Derived.SliceStrings
import Derived.MakeChecks
namespace Go.Tel
open Go.ChangeShapes Go.WideShapes

/-- All old memory is as it was. -/
structure Still (W w' : World) : Prop where
  os : w'.os = W.os
  output : w'.output = W.output
  heap : ∀ b, b < W.heap.size → w'.heap[b]? = W.heap[b]?

/-- The listed variables hold what the evaluator takes them for. -/
def Globs (E : Env) (W : World) : Prop :=
  ∀ gl row, E.G gl = some row → ∀ j c, row[j]? = some c → ∃ v, gl < W.heap.size ∧ W.cell? ⟨gl, j, none⟩ = some v ∧ VP (fun b _ => b < W.heap.size) W c v

theorem Globs.inv {E : Env} {W : World} (h : Globs E W) : Inv E (Ghost.bare fun b _ => b < W.heap.size) W ⟨[], []⟩ where
  blkN := fun _ _ h => by simp [Ghost.bare] at h
  deadN := fun _ h => by simp [Ghost.bare] at h
  blk := fun _ _ h => by simp [Ghost.bare] at h
  blkI := fun _ _ _ h => by simp [Ghost.bare] at h
  deadE := fun _ h => by simp [Ghost.bare] at h
  pendN := fun _ h => by simp [Ghost.bare] at h
  allB := fun _ h => by simp at h
  mp := fun _ _ h => by simp [Ghost.bare] at h
  mpX := fun _ _ h => by simp [Ghost.bare] at h
  injM := fun _ _ _ h => by simp [Ghost.bare] at h
  tokN := fun _ _ _ h => by simp at h
  tokL := fun _ _ h => by simp [Ghost.bare] at h
  tok := fun _ _ h => by simp [Ghost.bare] at h
  tokI := fun _ _ _ h => by simp [Ghost.bare] at h
  injB := fun _ _ _ h => by simp [Ghost.bare] at h
  injT := fun _ _ _ _ h => by simp [Ghost.bare] at h
  injBT := fun _ _ _ _ h => by simp [Ghost.bare] at h
  Ilt := fun _ _ h => h
  glob := h

theorem beq_ne {a b : Nat} (h : a ≠ b) : Nat.beq a b = false := by
  cases hb : Nat.beq a b with
  | false => rfl
  | true => exact absurd (Nat.eq_of_beq_eq_true hb) h

/-- The limits of the outermost call. -/
def L0 : Lim := ⟨0, 0, 0, fun _ => false, fun _ => false, fun _ => none⟩

/-- Arguments without addresses. -/
theorem VL.scalars {g : Ghost} {w : World} : ∀ vs : List Value, VL g w (vs.map scv) vs
  | [] => .nil
  | v :: vs => .cons (.pv (.sc v)) (VL.scalars vs)

theorem eval_calls {E : Env} (hG : Good E) {n : Nat} {f : FuncId} {vs : List Value} {u : Value} {s' : Sto} {W : World} (hW : Globs E W) (h : callN E n L0 f (vs.map scv) ⟨[], []⟩ = some (scv u, s')) :
    Calls E.P f vs.toArray W fun e w' => e = .returned u ∧ Still W w' := by
  refine ((callN_sound hG n L0 f _ _ _ _ _ _ _ h hW.inv (VL.scalars vs)).2).mono ?_
  rintro e w' ⟨v', g', rfl, hv, hx, _⟩
  refine ⟨by rw [hv.scv_inv], hx.os, hx.output, fun b hb => (hx.out b hb (fun _ e => by simp [Ghost.bare] at e) (fun _ _ e => by simp [Ghost.bare] at e) (fun _ e => by simp [Ghost.bare] at e)).1⟩

theorem Still.kept {W w' : World} (h : Still W w') (may : MemPlace → Prop) : W.keptBut w' may := by
  refine ⟨h.os, h.output, fun i hi => ?_⟩
  rw [h.heap i hi]
  cases W.heap[i]? with
  | none => rfl
  | some o => cases o <;> simp

theorem post_of_still {H : Type} {enc : TypeId × Value → H} {P : Program} {f : Func} {s : ChangeSpec} {apart fresh handsOn again : Bool} {W W' : World} {args : Array Value} {v : Value} {ds gs : List (DataW H)} {before pa pv : List MemPlace}
    (hW : DataW.Whole enc P f.params.toList s.vars apart W args.toList ds gs before)
    (hres : ∀ (b : Nat) (sp : Nat → Bool) (hd : Bool), DataW.TrodAll enc P W' b sp hd f.resultTypes.toList (v.resultList f.resultTypes.size) (s.fn H (ds ++ gs)).results [])
    (hargs : ∀ sp : Nat → Bool, (∀ p ∈ before, sp p.block = true) → DataW.TrodAll enc P W' 0 sp true f.params.toList args.toList (s.fn H (ds ++ gs)).args pa)
    (hvars : ∀ sp : Nat → Bool, (∀ p ∈ before, sp p.block = true) → DataW.TrodVars enc P W' sp s.vars (s.fn H (ds ++ gs)).vars pv)
    (hps : before = pa ++ pv) (hst : Still W W')
    (hok : ∀ (j : Nat) (t : TypeId) (r : Value), f.resultTypes[j]? = some t → (v.resultList f.resultTypes.size)[j]? = some r → Value.okWide P W' .any 0 t r) :
    s.post enc P f apart fresh handsOn again W args v W' := by
  have hlt : ∀ p ∈ before, p.block < W.heap.size := fun p hp => hW.lt p hp
  have hold : ∀ p ∈ before, (fun b => decide (b < W.heap.size)) p.block = true := fun p hp => by simpa using hW.lt p hp
  refine ⟨ds, gs, before, [], pa, pv, hW, hres _ _ _, hargs _ hold, hvars _ hold, World.keptBut_mono (fun p hp => ⟨hp, ?_⟩) (hst.kept _), fun _ => ?_⟩
  · rw [hps, List.mem_append] at hp
    exact Or.inr hp
  · obtain ⟨_, _, _, _, _, hz, hn⟩ := hW
    refine ⟨hok, _, _, ([] ++ pa) ++ pv, ⟨[] ++ pa, pv, trodAll_append (hargs _ (fun _ _ => rfl)) (hres _ _ _), hvars _ (fun _ _ => rfl), rfl, ?_, ?_⟩, ?_⟩
    · intro b off hp
      have hb : MemPlace.cell b off ∈ before := by rw [hps]; simpa using hp
      have hf : ∀ a : Addr, a.block = b → W'.frozen? a = W.frozen? a := fun a ha => by
        simp only [World.frozen?, ha, hst.heap b (hlt _ hb)]
      rw [hf _ rfl]
      exact hz b off hb
    · intro ha
      have := hn ha
      rw [hps] at this
      simpa using this
    · intro p hp _
      rw [hps]
      simpa using hp

theorem Good.of_checks {E : Env} (hp : allPlans E = true) (hn : (E.P.funcs.toList.all fun fn => fn.body.isNone || !(fn.name == "runtime.NumGoroutine")) = true) (hm : E.P.follows .mixedOrders = true)
    (hc : ∀ f, E.clone f = true → (∃ fn, E.P.funcs[f]? = some fn ∧ fn.body.isSome = true) ∧
      ∀ (w : World) (base : Option Addr) (cap : Nat), Calls E.P f #[.slice base 0 cap] w fun e w' => ∃ b', e = .returned (.slice b' 0 0) ∧ (w' = w ∨ ∃ o, w' = objW w o)) : Good E where
  mix := hm
  plans := fun f fn body hf hb => by
    have hlt : f < E.P.funcs.size := (Array.getElem?_eq_some_iff.1 hf).1
    have := List.all_eq_true.1 hp f (List.mem_range.2 hlt)
    rw [hf] at this
    simp only [hb] at this
    exact this
  names := fun f fn hf hb => by
    have hm : fn ∈ E.P.funcs.toList := by
      have := Array.mem_of_getElem? hf
      simpa using this
    have := List.all_eq_true.1 hn fn hm
    cases hx : fn.body with
    | none => rw [hx] at hb; simp at hb
    | some c => rw [hx] at this; simpa using this
  clones := hc

/-! ### Slices against nil -/

theorem eq_nil_slice {P : Program} {t e : TypeId} (h : P.underlying t = some (.slice e)) (w : World) (base : Option Addr) (n cap : Nat) :
    (binOp .eql t (.slice base n cap) (.slice none 0 0)).run P w = .ok (.bool base.isNone) w := by
  have : (Op.equal t (.slice base n cap) (.slice none 0 0)).run P w = .ok base.isNone w := by
    obtain ⟨m, hm⟩ : ∃ m, Op.maxDepth = m + 1 := ⟨9999, rfl⟩
    unfold Op.equal
    rw [hm]
    cases base <;> simp only [Op.equalIn, Sem.run_bind, run_underlying h, Result.andThen_ok, Sem.run_pure] <;> rfl
  simp [binOp, this]

/-! ### What a listed variable holds -/

theorem laid_reads {P : Program} {w : World} : ∀ {l : List (String × DataW Unit)} {ps : List MemPlace}, DataW.LaidVars P w l ps → ∀ n d, (n, d) ∈ l →
    ∃ g t cs fuel p, P.globalNamed n = some g ∧ (P.globals[g]?).map (·.type) = some t ∧ w.var? P n = some cs ∧ DataW.trod (fun _ => ()) P w 0 (fun _ => true) false fuel t cs.toList = some (d, p)
  | [], _, _, _, _, hm => by cases hm
  | (n', d') :: r, ps, h, n, d, hm => by
    obtain ⟨g, t, cs, fuel, p, q, h1, h2, h3, h4, h5, _⟩ := h
    rcases List.mem_cons.1 hm with e | e
    · cases e
      exact ⟨g, t, cs, fuel, p, h1, h2, h3, h4⟩
    · exact laid_reads h5 n d e

theorem lt_of_cell {w : World} {a : Addr} {v : Value} (h : w.cell? a = some v) : a.block < w.heap.size := by
  rcases Nat.lt_or_ge a.block w.heap.size with k | k
  · exact k
  · simp [World.cell?, Array.getElem?_eq_none k] at h

/-- A list of strings as a datum, and as the evaluator has it. -/
def strData (l : List (List UInt8)) : DataW Unit := .slice (l.map fun s => .lit (.string s)) []
def strRow (l : List (List UInt8)) : List PV := [.list (l.map fun s => [.sc (.string ⟨s.toArray⟩)])]

theorem glob_strings {P : Program} {W : World} {laid : List (String × DataW Unit)} {n : String} {l : List (List UInt8)} {g : Nat} {t e : TypeId} (h : laidMet P laid W) (hm : (n, strData l) ∈ laid)
    (hg : P.globalNamed n = some g) (hty : (P.globals[g]?).map (·.type) = some t) (ht : P.underlying t = some (.slice e)) (he : P.underlying e = some .string) (hc : P.cellsOf e = 1) :
    ∀ j c, (strRow l)[j]? = some c → ∃ v, g < W.heap.size ∧ W.cell? ⟨g, j, none⟩ = some v ∧ VP (fun b _ => b < W.heap.size) W c v := by
  obtain ⟨ps, hv, _⟩ := h
  obtain ⟨g', t', cs, fuel, p, h1, h2, h3, h4⟩ := laid_reads hv n _ hm
  obtain rfl := Option.some.inj (hg.symm.trans h1)
  obtain rfl := Option.some.inj (hty.symm.trans h2)
  rcases open_strings ht he hc h4 with ⟨_, hx⟩ | ⟨a, len, cap, ss, hcs, _, hl, _, hlen, hx, hcell, _⟩
  · simp [strData] at hx
  · simp only [Prod.mk.injEq, strData, DataW.slice.injEq] at hx
    obtain ⟨⟨hx1, hx2⟩, _⟩ := hx
    have hss : ss.take len = l.map fun s => (⟨s.toArray⟩ : ByteArray) := by
      have : ∀ (xs : List ByteArray) (ys : List (List UInt8)), ys.map (fun s => (DataW.lit (.string s) : DataW Unit)) = strs xs → xs = ys.map fun s => (⟨s.toArray⟩ : ByteArray) := by
        intro xs
        induction xs with
        | nil => intro ys h; cases ys <;> simp [strs] at h; rfl
        | cons x xs ih =>
          intro ys h
          cases ys with
          | nil => simp [strs] at h
          | cons y ys =>
            simp only [strs, List.map_cons, List.cons.injEq, DataW.lit.injEq, Lit.string.injEq] at h ih
            obtain ⟨rfl, h2⟩ := h
            rw [ih ys h2]
            simp
      exact this _ _ hx1
    have hl' : l.length = len := by
      have := congrArg List.length hss
      simp only [List.length_take, List.length_map] at this
      have : len ≤ ss.length := by rw [hlen]; simp; exact hl
      omega
    have hcg := World.var?_cell hg h3 0
    have hcs' : cs = #[.slice (some a) len cap] := Array.ext' hcs
    rw [hcs'] at hcg
    simp at hcg
    intro j c hj
    obtain rfl : j = 0 := by
      rcases Nat.eq_zero_or_pos j with k | k
      · exact k
      · simp [strRow, List.getElem?_eq_none (show [PV.list (l.map fun s => [PV.sc (.string ⟨s.toArray⟩)])].length ≤ j from k)] at hj
    simp [strRow] at hj
    subst hj
    refine ⟨_, lt_of_cell hcg, hcg, ?_⟩
    obtain ⟨b, off, spot⟩ := a
    have raw : ∀ i s, l[i]? = some s → W.cell? ((⟨b, off, spot⟩ : Addr).add i) = some (.string ⟨s.toArray⟩) := fun i s hs => by
      have hil : i < l.length := (List.getElem?_eq_some_iff.1 hs).1
      have hi : i < ss.length := by rw [hlen]; simp; omega
      rw [hcell i hi]
      have hg : (ss.take len)[i]? = some ⟨s.toArray⟩ := by rw [hss]; simp [hs]
      rw [List.getElem?_take_of_lt (by omega)] at hg
      simp [List.getD, hg]
    have hspot : l ≠ [] → spot = none := fun hne => by
      cases hl0 : l with
      | nil => exact absurd hl0 hne
      | cons s0 l0 => simpa [Addr.add] using World.cell?_spot (raw 0 s0 (by simp [hl0]))
    have get : ∀ i s, l[i]? = some s → W.cell? ⟨b, off + i, none⟩ = some (.string ⟨s.toArray⟩) := fun i s hs => by
      have hsp := hspot (fun e => by simp [e] at hs)
      subst hsp
      have := raw i s hs
      simp only [Addr.add] at this
      split at this
      · rename_i h0; subst h0; exact this
      · exact this
    have := VP.of_rows (I := fun b _ => b < W.heap.size) (w := W) (rows := l.map fun s => [PV.sc (.string ⟨s.toArray⟩)]) (base := some ⟨b, off, spot⟩) (b := b) (o := off) (sz := 1) (f := fun i _ => .string ⟨(l.getD i []).toArray⟩) (cap := cap)
      ⟨fun row hr => by
          obtain ⟨s, _, rfl⟩ := List.mem_map.1 hr
          rfl,
        fun hne _ => by
          rw [hspot (fun e => by simp [e] at hne)],
        fun i row j c hr hj => by
          rw [List.getElem?_map] at hr
          cases hs : l[i]? with
          | none => simp [hs] at hr
          | some s =>
            simp [hs] at hr; subst hr
            have hj0 : j = 0 := by have := (List.getElem?_eq_some_iff.1 hj).1; simpa using this
            subst hj0
            have hc' := get i s hs
            refine ⟨lt_of_cell hc', ?_⟩
            simp only [Nat.mul_one, Nat.add_zero]
            rw [hc']
            simp [List.getD, hs],
        fun i row j c hr hj => by
          rw [List.getElem?_map] at hr
          cases hs : l[i]? with
          | none => simp [hs] at hr
          | some s =>
            simp [hs] at hr; subst hr
            have hj0 : j = 0 := by have := (List.getElem?_eq_some_iff.1 hj).1; simpa using this
            subst hj0
            simp at hj; subst hj
            simp only [List.getD, hs, Option.getD_some]
            exact .sc _⟩ (by simp; omega)
    rw [List.length_map, hl'] at this
    exact this

/-! ### Steps of an evaluation, one at a time, where the calls are not evaluated but told -/

def fuseNone (o : Oper) : List Oper → Bool
  | o1 :: o2 :: _ => (fused o o1 o2).isNone
  | _ => true

theorem opsA_step {E : Env} {L : Lim} {cf : CallF} {ops : Array Oper} {o : Oper} {rest : List Oper} {st st' : St} {v : AV} {s' : Sto} (hf : fuseNone o rest = true) (hg : o.guard = none)
    (h : actA E L cf st.ρ st.s o = some (v, s')) (hp : putA { st with s := s' } o.dst v = some st') : opsA E L cf ops (o :: rest) st = opsA E L cf ops rest st' := by
  have hg' : guardOk ops st.ρ o = some true := by simp [guardOk, hg]
  match rest, hf with
  | [], _ => simp [opsA, hg', stepA, h, hp]
  | [o1], _ => rw [opsA] <;> simp [hg', stepA, h, hp]
  | o1 :: o2 :: rest', hf =>
    rw [opsA]
    cases hk : fused o o1 o2 with
    | some k => simp [fuseNone, hk] at hf
    | none => simp [hg', stepA, h, hp]

theorem evW_seq {E : Env} {cf : Lim → CallF} {n : Nat} {L : Lim} {a b : Code} {st st' : St} (h : evW E cf n L a st = some (.norm, st')) : evW E cf (n + 1) L (.seq a b) st = evW E cf n L b st' := by
  simp [evW, h]

theorem evW_region {E : Env} {cf : Lim → CallF} {n : Nat} {L : Lim} {id : Nat} {ops : Array Oper} {st st' : St} (h : opsA E L (cf L) ops ops.toList st = some st') : evW E cf (n + 1) L (.region id ops false) st = some (.norm, st') := by
  simp [evW, h]

/-- What a body answers, from what its code answers. -/
def finishA (E : Env) (fn : Func) : Option (Out × St) → Option (AV × Sto)
  | some (.exit _, _) => none
  | some (_, st) => match resultsA E st fn.results.toList with
    | some vs => some (packA vs, st.s)
    | none => none
  | none => none

theorem bodyA_eq {E : Env} {cf : Lim → CallF} {n : Nat} {fn : Func} {L : Lim} {args : List AV} {s : Sto} {body : Code} (h : fn.body = some body) : bodyA E cf n fn L args s = finishA E fn (evW E cf n L body ⟨fn.ntmps, initρ args, s⟩) := by
  unfold bodyA finishA
  rw [h]
  rfl

def isTrueA : Option (AV × Sto) → Bool
  | some (.pv (.sc (.bool b)), _) => b
  | _ => false

theorem isTrueA_some {x : Option (AV × Sto)} (h : isTrueA x = true) : ∃ s, x = some (scv (.bool true), s) := by
  unfold isTrueA at h
  split at h
  · rename_i b s
    subst h
    exact ⟨s, rfl⟩
  · simp at h

/-- A body whose calls are told, from a world that holds the listed variables. -/
theorem body_calls {E : Env} (hG : Good E) {n : Nat} {f : FuncId} {fn : Func} {body : Code} {cf : Lim → CallF} {L : Lim} {vs : List Value} {u : Value} {s' : Sto} {W : World} (hW : Globs E W) (hcf : CallOk E L (cf L))
    (hfn : E.P.funcs[f]? = some fn) (hbody : fn.body = some body) (hpl : L.pl = E.plan f) (hN : vs.length ≤ fn.ntmps) (h : bodyA E cf n fn L (vs.map scv) ⟨[], []⟩ = some (scv u, s')) :
    Calls E.P f vs.toArray W fun e w' => e = .returned u ∧ Still W w' := by
  refine (bodyA_sound hcf hG.mix hfn hbody (by rw [hpl]; exact hG.plans f fn body hfn hbody) (by simpa using hN) hW.inv (VL.scalars vs) h).mono ?_
  rintro e w' ⟨v', g', rfl, hv, hx, _⟩
  refine ⟨by rw [hv.scv_inv], hx.os, hx.output, fun b hb => (hx.out b hb (fun _ e => by simp [Ghost.bare] at e) (fun _ _ e => by simp [Ghost.bare] at e) (fun _ e => by simp [Ghost.bare] at e)).1⟩

/-- A call that is told, not evaluated: it leaves the world. -/
theorem told_ok {E : Env} {L : Lim} {f : FuncId} {fn : Func} {g : Ghost} {w : World} {s : Sto} {vs : List Value} {u : Value} (hG : Good E) (hfn : E.P.funcs[f]? = some fn) (hb : fn.body.isSome = true) (hI : Inv E g w s)
    (h : Calls E.P f vs.toArray w fun e w' => e = .returned u ∧ w' = w) :
    (∃ fn, E.P.funcs[f]? = some fn ∧ fn.body.isSome = true ∧ (fn.name == "runtime.NumGoroutine") = false) ∧
    Calls E.P f vs.toArray w fun e w' => ∃ v' g', e = .returned v' ∧ V g' w' (scv u) v' ∧ Ext L g w g' w' ∧ Inv E g' w' s := by
  refine ⟨⟨fn, hfn, hb, hG.names f fn hfn hb⟩, h.mono ?_⟩
  rintro e w' ⟨rfl, rfl⟩
  exact ⟨u, g, rfl, .pv (.sc u), Ext.refl _ _ _, hI⟩

theorem scalars_inv {g : Ghost} {w : World} : ∀ {us vs : List Value}, VL g w (us.map scv) vs → vs = us
  | [], vs, h => h.nil_inv
  | u :: us, vs, h => by
    obtain ⟨v, vs', rfl, h1, h2⟩ := VL.cases (c := scv u) (cs := us.map scv) h
    rw [h1.scv_inv, scalars_inv h2]

/-- The value of a call that only reads and whose arguments hold no id: neither the store nor the limits matter. -/
def pureV (E : Env) (n : Nat) (f : FuncId) (args : List AV) : Option AV :=
  match E.P.funcs[f]? with
  | some fn => if args.length ≤ fn.ntmps then match pureA E (callN E n) n f fn args ⟨[], []⟩ with
      | some (v, _) => some v
      | none => none
    else none
  | none => none

theorem pureA_store {E : Env} {cf : Lim → CallF} {n : Nat} {f : FuncId} {fn : Func} {args : List AV} (s : Sto) {v : AV} {s0 s1 : Sto} (h : pureA E cf n f fn args s0 = some (v, s1)) : pureA E cf n f fn args s = some (v, s) := by
  unfold pureA at h ⊢
  split at h
  · rename_i x s' hb
    split at h
    · rename_i y hy
      simp only [Option.some.injEq, Prod.mk.injEq] at h
      obtain ⟨rfl, rfl⟩ := h
      simp
    · simp at h
  · simp at h

theorem callN_pure {E : Env} {n : Nat} {f : FuncId} {args args' : List AV} {v : AV} (hk : E.kind f = .rd) (hc : E.clone f = false) (hcl : closeL [] 0 0 args = some args') (hlen : args'.length = args.length) (h : pureV E n f args' = some v) (L : Lim) (s : Sto) :
    callN E (n + 1) L f args s = some (v, s) := by
  unfold pureV at h
  split at h
  · rename_i fn hfn
    split at h
    · rename_i hN
      split at h
      · rename_i u s1 hp
        simp at h; subst h
        simp only [callN, hfn, hc, Bool.false_and, cond_false, enterA, hk, hcl]
        rw [if_pos (by omega)]
        exact pureA_store s hp
      · simp at h
    · simp at h
  · simp at h

end Go.Tel
