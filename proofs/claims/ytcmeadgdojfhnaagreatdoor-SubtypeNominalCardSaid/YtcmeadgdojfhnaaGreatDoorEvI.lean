/-
  From an evaluation to the contract that a row asks for; what the listed variables hold.
-/
import Derived.Test.YtcmeadgdojfhnaaGreatDoorEvP
import Derived.ChangeSame
import Derived.SliceStrings
import Derived.MakeChecks
set_option linter.unusedSimpArgs false
set_option linter.unusedVariables false
namespace Go.Tel
open Go.ChangeShapes Go.WideShapes
structure Still (W w' : World) : Prop where
  os : w'.os = W.os
  output : w'.output = W.output
  heap : ∀ b, b < W.heap.size → w'.heap[b]? = W.heap[b]?
def Globs (E : Env) (W : World) : Prop :=
  ∀ gl row, E.G gl = some row → (∀ j c, row[j]? = some c → ∃ v, gl < W.heap.size ∧ W.cell? ⟨gl, j, none⟩ = some v ∧ VP (fun b _ => b < W.heap.size) W c v) ∧ gl < W.heap.size ∧ W.cell? ⟨gl, row.length, none⟩ = none
theorem Globs.inv {E : Env} {W : World} (h : Globs E W) : Inv E (Ghost.bare fun b _ => b < W.heap.size) W ⟨[], []⟩ where
  blkN := fun _ _ h => by grind[Ghost.bare]
  deadN := fun _ h => by grind[Ghost.bare]
  blk := fun _ _ h => by grind[Ghost.bare]
  blkI := fun _ _ _ h => by grind[Ghost.bare]
  deadE := fun _ h => by grind[Ghost.bare]
  pendN := fun _ h => by grind[Ghost.bare]
  allB := fun _ h => by grind
  mp := fun _ _ h => by grind[Ghost.bare]
  mpX := fun _ _ h => by grind[Ghost.bare]
  injM := fun _ _ _ h => by grind[Ghost.bare]
  tokN := fun _ _ _ h => by grind
  tokL := fun _ _ h => by grind[Ghost.bare]
  tok := fun _ _ h => by grind[Ghost.bare]
  tokI := fun _ _ _ h => by grind[Ghost.bare]
  injB := fun _ _ _ h => by grind[Ghost.bare]
  injT := fun _ _ _ _ h => by grind[Ghost.bare]
  injBT := fun _ _ _ _ h => by grind[Ghost.bare]
  Ilt := fun _ _ h => h
  glob := fun gl row hr => (h gl row hr).1
  globN := fun gl row hr => (h gl row hr).2
theorem beq_ne {a b : Nat} (h : a ≠ b) : Nat.beq a b = false := by grind[Nat.eq_of_beq_eq_true]
def L0 : Lim := ⟨0, 0, 0, fun _ => false, fun _ => false, fun _ => none⟩
theorem Still.kept {W w' : World} (h : Still W w') (may : MemPlace → Prop) : W.keptBut w' may := by
  refine ⟨h.os, h.output, fun i hi => ?_⟩
  rw [h.heap i hi]
  grind
theorem post_of_still {H : Type} {enc : TypeId × Value → H} {P : Program} {f : Func} {s : ChangeSpec} {apart fresh handsOn again : Bool} {W W' : World} {args : Array Value} {v : Value} {ds gs : List (DataW H)} {before pa pv : List MemPlace}
    (hW : DataW.Whole enc P f.params.toList s.vars apart W args.toList ds gs before)
    (hres : ∀ (b : Nat) (sp : Nat → Bool) (hd : Bool), DataW.TrodAll enc P W' b sp hd f.resultTypes.toList (v.resultList f.resultTypes.size) (s.fn H (ds ++ gs)).results [])
    (hargs : ∀ sp : Nat → Bool, (∀ p ∈ before, sp p.block = true) → DataW.TrodAll enc P W' 0 sp true f.params.toList args.toList (s.fn H (ds ++ gs)).args pa)
    (hvars : ∀ sp : Nat → Bool, (∀ p ∈ before, sp p.block = true) → DataW.TrodVars enc P W' sp s.vars (s.fn H (ds ++ gs)).vars pv)
    (hps : before = pa ++ pv) (hst : Still W W')
    (hok : ∀ (j : Nat) (t : TypeId) (r : Value), f.resultTypes[j]? = some t → (v.resultList f.resultTypes.size)[j]? = some r → Value.okWide P W' .any 0 t r) :
    s.post enc P f apart fresh handsOn again W args v W' := by
  have hlt : ∀ p ∈ before, p.block < W.heap.size := fun p hp => hW.lt p hp
  have hold : ∀ p ∈ before, (fun b => decide (b < W.heap.size)) p.block = true := fun p hp => by grind
  refine ⟨ds, gs, before, [], pa, pv, hW, hres _ _ _, hargs _ hold, hvars _ hold, World.keptBut_mono (fun p hp => ⟨hp, ?_⟩) (hst.kept _), fun _ => ?_⟩
  · grind
  · obtain ⟨_, _, _, _, _, hz, hn⟩ := hW
    refine ⟨hok, _, _, ([] ++ pa) ++ pv, ⟨[] ++ pa, pv, trodAll_append (hargs _ (fun _ _ => rfl)) (hres _ _ _), hvars _ (fun _ _ => rfl), rfl, ?_, ?_⟩, ?_⟩
    · intro b off hp
      have hb : MemPlace.cell b off ∈ before := by grind
      have hf : ∀ a : Addr, a.block = b → W'.frozen? a = W.frozen? a := fun a ha => by
        simp only [World.frozen?, ha, hst.heap b (hlt _ hb)]
      rw [hf _ rfl]
      exact hz b off hb
    all_goals grind
theorem Good.of_checks {E : Env} (hp : allPlans E = true) (hn : (E.P.funcs.toList.all fun fn => fn.body.isNone || !(fn.name == "runtime.NumGoroutine")) = true) (hm : E.P.follows .mixedOrders = true)
    (ht : ∀ f T, E.told f = some T → ToldOk E f T) (hk : ∀ k t, E.back k = some t → BackC E.P k t)
    (hc : ∀ f, E.clone f = true → E.told f = none → (∃ fn, E.P.funcs[f]? = some fn ∧ fn.body.isSome = true) ∧
      ∀ (w : World) (base : Option Addr) (cap : Nat), Calls E.P f #[.slice base 0 cap] w fun e w' => ∃ b', e = .returned (.slice b' 0 0) ∧ (w' = w ∨ ∃ o, w' = objW w o)) : Good E where
  tolds := ht
  backs := hk
  mix := hm
  plans := fun f fn body hf hb => by
    have hlt : f < E.P.funcs.size := (Array.getElem?_eq_some_iff.1 hf).1
    have := List.all_eq_true.1 hp f (List.mem_range.2 hlt)
    grind
  names := fun f fn hf hb => by
    have hm : fn ∈ E.P.funcs.toList := by grind
    have := List.all_eq_true.1 hn fn hm
    cases hx : fn.body with
    | none => grind
    | some c => grind
  clones := hc
theorem eq_nil_slice {P : Program} {t e : TypeId} (h : P.underlying t = some (.slice e)) (w : World) (base : Option Addr) (n cap : Nat) :
    (binOp .eql t (.slice base n cap) (.slice none 0 0)).run P w = .ok (.bool base.isNone) w := by
  have : (Op.equal t (.slice base n cap) (.slice none 0 0)).run P w = .ok base.isNone w := by
    obtain ⟨m, hm⟩ : ∃ m, Op.maxDepth = m + 1 := ⟨9999, rfl⟩
    unfold Op.equal
    rw [hm]
    cases base <;> simp only [Op.equalIn, Sem.run_bind, run_underlying h, Result.andThen_ok, Sem.run_pure] <;> rfl
  simp[*,binOp]
theorem laid_reads {P : Program} {w : World} : ∀ {l : List (String × DataW Unit)} {ps : List MemPlace}, DataW.LaidVars P w l ps → ∀ n d, (n, d) ∈ l →
    ∃ g t cs fuel p, P.globalNamed n = some g ∧ (P.globals[g]?).map (·.type) = some t ∧ w.var? P n = some cs ∧ DataW.trod (fun _ => ()) P w 0 (fun _ => true) false fuel t cs.toList = some (d, p)
  | [], _, _, _, _, hm => by grind
  | (n', d') :: r, ps, h, n, d, hm => by
    obtain ⟨g, t, cs, fuel, p, q, h1, h2, h3, h4, h5, _⟩ := h
    rcases List.mem_cons.1 hm with e | e
    · grind
    · exact laid_reads h5 n d e
theorem lt_of_cell {w : World} {a : Addr} {v : Value} (h : w.cell? a = some v) : a.block < w.heap.size := by grind[World.cell?]
def strData (l : List (List UInt8)) : DataW Unit := .slice (l.map fun s => .lit (.string s)) []
def strRow (l : List (List UInt8)) : List PV := [.list (l.map fun s => [.sc (.string ⟨s.toArray⟩)])]
theorem glob_strings {P : Program} {W : World} {laid : List (String × DataW Unit)} {n : String} {l : List (List UInt8)} {g : Nat} {t e : TypeId} (h : laidMet P laid W) (hm : (n, strData l) ∈ laid)
    (hg : P.globalNamed n = some g) (hty : (P.globals[g]?).map (·.type) = some t) (ht : P.underlying t = some (.slice e)) (he : P.underlying e = some .string) (hc : P.cellsOf e = 1) :
    (∀ j c, (strRow l)[j]? = some c → ∃ v, g < W.heap.size ∧ W.cell? ⟨g, j, none⟩ = some v ∧ VP (fun b _ => b < W.heap.size) W c v) ∧ g < W.heap.size ∧ W.cell? ⟨g, (strRow l).length, none⟩ = none := by
  obtain ⟨ps, hv, _⟩ := h
  obtain ⟨g', t', cs, fuel, p, h1, h2, h3, h4⟩ := laid_reads hv n _ hm
  obtain rfl := Option.some.inj (hg.symm.trans h1)
  obtain rfl := Option.some.inj (hty.symm.trans h2)
  rcases open_strings ht he hc h4 with ⟨_, hx⟩ | ⟨a, len, cap, ss, hcs, _, hl, _, hlen, hx, hcell, _⟩
  · grind[strData]
  · simp only [Prod.mk.injEq, strData, DataW.slice.injEq] at hx
    obtain ⟨⟨hx1, hx2⟩, _⟩ := hx
    have hss : ss.take len = l.map fun s => (⟨s.toArray⟩ : ByteArray) := by
      have : ∀ (xs : List ByteArray) (ys : List (List UInt8)), ys.map (fun s => (DataW.lit (.string s) : DataW Unit)) = strs xs → xs = ys.map fun s => (⟨s.toArray⟩ : ByteArray) := by
        intro xs
        induction xs with
        | nil => simp_all[strs]
        | cons x xs ih =>
          intro ys h
          cases ys with
          | nil => grind[strs]
          | cons y ys =>
            simp only [strs, List.map_cons, List.cons.injEq, DataW.lit.injEq, Lit.string.injEq] at h ih
            obtain ⟨rfl, h2⟩ := h
            rw [ih ys h2]
            simp
      grind
    have hl' : l.length = len := by grind[List.length_map]
    have hcg := World.var?_cell hg h3 0
    have hcn := World.var?_cell hg h3 1
    have hcs' : cs = #[.slice (some a) len cap] := Array.ext' hcs
    rw [hcs'] at hcg hcn
    simp at hcg hcn
    refine ⟨?_, lt_of_cell hcg, hcn⟩
    intro j c hj
    obtain rfl : j = 0 := by grind[strRow]
    simp [strRow] at hj
    subst hj
    refine ⟨_, lt_of_cell hcg, hcg, ?_⟩
    obtain ⟨b, off, spot⟩ := a
    have raw : ∀ i s, l[i]? = some s → W.cell? ((⟨b, off, spot⟩ : Addr).add i) = some (.string ⟨s.toArray⟩) := fun i s hs => by
      have hil : i < l.length := (List.getElem?_eq_some_iff.1 hs).1
      have hi : i < ss.length := by grind
      rw [hcell i hi]
      have hg : (ss.take len)[i]? = some ⟨s.toArray⟩ := by rw [hss]; simp [hs]
      grind
    have hspot : l ≠ [] → spot = none := fun hne => by
      cases hl0 : l with
      | nil => grind
      | cons s0 l0 => simpa [Addr.add] using World.cell?_spot (raw 0 s0 (by grind))
    have get : ∀ i s, l[i]? = some s → W.cell? ⟨b, off + i, none⟩ = some (.string ⟨s.toArray⟩) := fun i s hs => by
      have hsp := hspot (fun e => by grind)
      grind[Addr.add]
    have := VP.of_rows (I := fun b _ => b < W.heap.size) (w := W) (rows := l.map fun s => [PV.sc (.string ⟨s.toArray⟩)]) (base := some ⟨b, off, spot⟩) (b := b) (o := off) (sz := 1) (f := fun i _ => .string ⟨(l.getD i []).toArray⟩) (cap := cap)
      ⟨fun row hr => by grind,
        fun hne _ => by
          rw [hspot (fun e => by grind)],
        fun i row j c hr hj => by
          rw [List.getElem?_map] at hr
          cases hs : l[i]? with
          | none => grind
          | some s =>
            simp [hs] at hr; subst hr
            have hj0 : j = 0 := by grind
            subst hj0
            have hc' := get i s hs
            refine ⟨lt_of_cell hc', ?_⟩
            grind,
        fun i row j c hr hj => by
          rw [List.getElem?_map] at hr
          cases hs : l[i]? with
          | none => grind
          | some s =>
            simp [hs] at hr; subst hr
            have hj0 : j = 0 := by grind
            subst hj0
            simp at hj; subst hj
            simp only [List.getD, hs, Option.getD_some]
            exact .sc _⟩ (by grind)
    grind
def fuseNone (o : Oper) : List Oper → Bool
  | o1 :: o2 :: _ => (fused o o1 o2).isNone
  | _ => true
def finishA (E : Env) (fn : Func) : Option (Out × St) → Option (AV × Sto)
  | some (.exit _, _) => none
  | some (_, st) => match resultsA E st fn.results.toList with
    | some vs => some (packA vs, st.s)
    | none => none
  | none => none
def isTrueA : Option (AV × Sto) → Bool
  | some (.pv (.sc (.bool b)), _) => b
  | _ => false
def pureV (E : Env) (n : Nat) (f : FuncId) (args : List AV) : Option AV :=
  match E.P.funcs[f]? with
  | some fn => if args.length ≤ fn.ntmps then match pureA E (callN E n) n f fn args ⟨[], []⟩ with
      | some (v, _) => some v
      | none => none
    else none
  | none => none
theorem pureA_store {E : Env} {cf : Lim → CallF} {n : Nat} {f : FuncId} {fn : Func} {args : List AV} (s : Sto) {v : AV} {s0 s1 : Sto} (h : pureA E cf n f fn args s0 = some (v, s1)) : pureA E cf n f fn args s = some (v, s) := by
  unfold pureA at h ⊢
  split at h
  · rename_i x s' hb
    split at h
    all_goals grind
  grind
theorem callN_pure {E : Env} {n : Nat} {f : FuncId} {args args' : List AV} {v : AV} (hk : E.kind f = .rd) (hc : E.clone f = false) (hcl : closeL [] 0 0 args = some args') (hlen : args'.length = args.length) (h : pureV E n f args' = some v) (L : Lim) (s : Sto) :
    callN E (n + 1) L f args s = some (v, s) := by grind[pureV,callN,enterA,pureA_store]
end Go.Tel
/-
  A table of calls that are known: each is shown once, with the help of others, and then looked up.
-/
namespace Go.Tel
structure Known where
  n0 : Nat
  ro : Nat
  rt : Nat
  f : FuncId
  args : List AV
  s : Sto
  v : AV
  s' : Sto
def eqLL : List (List AV) → List (List AV) → Bool
  | [], [] => true
  | a :: xs, b :: ys => eqAL a b && eqLL xs ys
  | _, _ => false
def eqTs : List (Nat × Nat) → List (Nat × Nat) → Bool
  | [], [] => true
  | a :: xs, b :: ys => Nat.beq a.1 b.1 && Nat.beq a.2 b.2 && eqTs xs ys
  | _, _ => false
def lookK (L : Lim) (f : FuncId) (args : List AV) (s : Sto) : List Known → Option (AV × Sto)
  | [] => none
  | k :: ks => bif Nat.beq f k.f && (Nat.beq L.n0 k.n0 && Nat.beq L.ro k.ro && Nat.beq L.rt k.rt && eqAL args k.args && eqLL s.bs k.s.bs && eqTs s.ts k.s.ts) then some (k.v, k.s') else lookK L f args s ks
def Known.Ok (E : Env) (k : Known) : Prop :=
  ∀ (L : Lim) (g : Ghost) (w : World) (vs : List Value), L.n0 = k.n0 → L.ro = k.ro → L.rt = k.rt → Inv E g w k.s → VL g w k.args vs →
    (∃ fn, E.P.funcs[k.f]? = some fn ∧ fn.body.isSome = true ∧ (fn.name == "runtime.NumGoroutine") = false) ∧
    Calls E.P k.f vs.toArray w fun e w' => ∃ v' g', e = .returned v' ∧ V g' w' k.v v' ∧ Ext L g w g' w' ∧ Inv E g' w' k.s'
def callK (E : Env) (ks : List Known) : Nat → Lim → CallF
  | 0, _, _, _, _ => none
  | n + 1, L, f, args, s => match lookK L f args s ks with
    | some r => some r
    | none => match E.P.funcs[f]? with
      | some fn => bif E.clone f then toldA E L f args s (enterA E (callK E ks n) n L f fn args s) else enterA E (callK E ks n) n L f fn args s
      | none => none
def eqRes (v : AV) (s : Sto) : Option (AV × Sto) → Bool
  | some (a, b) => eqA a v && eqLL b.bs s.bs && eqTs b.ts s.ts
  | none => false
end Go.Tel
/-
  What calls of strings.Builder's copyCheck and String answer, where the evaluator is told.
-/
namespace Go.Tel
def copyT (ok : TypeId → Nat → Bool) (L : Lim) (args : List AV) (s : Sto) : Option (AV × Sto) := match args with
  | [.ptr id 0] => match s.bs[id]? with
    | some (.ptr id' 0 :: _) => bif Nat.beq id' id then some (.tuple [], s) else none
    | some (.bz id' t' n' :: r) =>
      bif Nat.beq id' id && (ok t' n' && (Nat.ble L.ro id && Nat.ble L.n0 id)) then some (.tuple [], { s with bs := s.bs.set id (.ptr id 0 :: r) }) else none
    | _ => none
  | _ => none
def byteRows : List (List PV) → Option (List UInt8)
  | [] => some []
  | [.sc (.int .u8 (.ofNat k))] :: rest => bif Nat.blt k 256 then match byteRows rest with
      | some l => some (UInt8.ofNat k :: l)
      | none => none
    else none
  | _ => none
def strT (u8 : TypeId) (L : Lim) (args : List AV) (s : Sto) : Option (AV × Sto) := match args with
  | [.ptr id 0] => match s.bs[id]? with
    | some (_ :: .own k rows :: _) => match byteRows rows, s.ts[k]? with
      | some (c :: cs), some (n, e) =>
        bif Nat.beq n rows.length && (Nat.beq e u8 && (Nat.ble L.rt k && Nat.ble rows.length 1000000000000000000)) then some (scv (.string ⟨(c :: cs).toArray⟩), s) else none
      | _, _ => none
    | _ => none
  | _ => none
def delT (sz : Nat) (L : Lim) (args : List AV) (s : Sto) : Option (AV × Sto) := match args with
  | [.ref id 0 len k, .pv (.sc (.int .i64 (.ofNat i))), .pv (.sc (.int .i64 (.ofNat j)))] => match s.bs[id]? with
    | some cs => bif Nat.beq k sz && (Nat.beq (len * sz) cs.length && (Nat.blt i j && (Nat.ble j len && (Nat.ble L.ro id && cs.all okCell)))) then match cs.take (i * sz) ++ cs.drop (j * sz) with
        | [] => some (.pv (.list []), { s with bs := s.bs.set id [] })
        | c :: r => some (.ref s.bs.length 0 (len - (j - i)) sz, { s with bs := s.bs.set id [] ++ [c :: r] })
      else none
    | none => none
  | _ => none
def HasBody (P : Program) (f : FuncId) : Prop := ∃ fn, P.funcs[f]? = some fn ∧ fn.body.isSome = true ∧ (fn.name == "runtime.NumGoroutine") = false
structure CopyC (P : Program) (f : FuncId) (ok : TypeId → Nat → Bool) : Prop where
  body : HasBody P f
  fresh : ∀ (t : TypeId) (n : Nat), ok t n = true → ∀ (w : World) (b : Nat), w.cell? ⟨b, 0, none⟩ = some (.pointer none) → w.shape? b = some (t, n) → w.frozen? ⟨b, 0, none⟩ = false →
    Calls P f #[.pointer (some ⟨b, 0, none⟩)] w fun e w' => e = .returned (.tuple #[]) ∧ w' = w.setCell ⟨b, 0, none⟩ (.pointer (some ⟨b, 0, none⟩))
  used : ∀ (w : World) (b : Nat), w.cell? ⟨b, 0, none⟩ = some (.pointer (some ⟨b, 0, none⟩)) →
    Calls P f #[.pointer (some ⟨b, 0, none⟩)] w fun e w' => e = .returned (.tuple #[]) ∧ w' = w
structure StrC (P : Program) (f : FuncId) (u8 : TypeId) : Prop where
  body : HasBody P f
  str : ∀ (w : World) (b g cap : Nat) (cur : Array Value) (fz : Nat × Nat) (l : List UInt8), l ≠ [] → l.length ≤ cap → l.length ≤ 9223372036854775807 →
    w.cell? ⟨b, 1, none⟩ = some (.slice (some ⟨g, 0, none⟩) l.length cap) → w.heap[g]? = some (.cells cur u8 fz) → l.length ≤ cur.size →
    (∀ j x, l[j]? = some x → w.cell? ⟨g, j, none⟩ = some (.int .u8 x.toNat)) →
    Calls P f #[.pointer (some ⟨b, 0, none⟩)] w fun e w' => e = .returned (.string ⟨l.toArray⟩) ∧ w' = (drewW w).freeze ⟨g, 0, none⟩ l.length
end Go.Tel
