/-
  Single operations, part 10: make, conversions, nil, plain operations; all together.
-/
import Derived.Test.YtcmeadgdojfhnaaGreatDoorEvK
import Derived.Laws.BytesString
import Derived.Orders
set_option linter.unusedSimpArgs false
set_option linter.unusedVariables false
namespace Go.Tel
theorem wrap64_small {n : Int} (h0 : 0 ≤ n) (h1 : n ≤ 2 ^ 40) : IntKind.i64.wrap n = n := by
  have hb : IntKind.i64.bits = 64 := rfl
  grind[IntKind.wrap]
theorem makeSlice_run {P : Program} {w : World} {t elem : TypeId} {len cap : Int} {i' : TypeInfo} {zv : Value} (hu : P.underlying t = some (.slice elem)) (hi : P.info? elem = some i')
    (hrun : (zeroValue elem).run P w = .ok zv w) (hzs : zv.cells.size = i'.size) (hk : i'.size ≠ 0) (h0 : 0 ≤ len) (hle : len ≤ cap) (hc40 : cap ≤ 2 ^ 40) (hcb : cap * i'.bytes ≤ 2 ^ 45) :
    (Instr.makeSlice t (.int .i64 len) (.int .i64 cap)).run P w = .ok (.slice (some ⟨w.heap.size, 0, none⟩) len.toNat cap.toNat) (pushW w (repl cap.toNat zv.cells.toList) elem) := by
  have hwl : IntKind.i64.wrap len = len := wrap64_small h0 (by omega)
  have hwc : IntKind.i64.wrap cap = cap := wrap64_small (by omega) hc40
  simp only [Instr.makeSlice, Sem.run_bind, run_underlying hu, Result.andThen_ok, asInt, asIntOf, Sem.run_pure, run_typeInfo hi, hwl, hwc]
  have t1 : (decide (cap < 0) || decide ((i'.bytes : Int) * cap > 2 ^ 48)) = false := by grind
  rw [if_neg (by grind)]
  simp only [run_askRoom, Result.andThen_ok, run_sizeOf hi, Sem.run_bind]
  by_cases hn0 : cap.toNat * i'.size = 0
  · have hc0 : cap.toNat = 0 := by grind[Nat.mul_eq_zero]
    rw [hc0]
    simp only [Nat.zero_mul, if_true, Sem.run_bind, Sem.run_pure, Result.andThen_ok]
    rw [show (Array.map (fun x => (#[] : Array Value)[x % (#[] : Array Value).size]!) (Array.range 0)) = ⟨[]⟩ from by simp]
    rfl
  · rw [if_neg hn0]
    simp only [Sem.run_bind, hrun, Result.andThen_ok, Sem.run_pure]
    have := zero_cells zv.cells cap.toNat (by omega)
    rw [hzs] at this ⊢
    rw [this]
    rfl
theorem makeSliceA_sound {E : Env} {L : Lim} {g : Ghost} {w : World} {s s' : Sto} (hI : Inv E g w s) {t : TypeId} {l c v : AV} {lv cv : Value}
    (hl : V g w l lv) (hc : V g w c cv) (h : makeSliceA E.P s t l c = some (v, s')) :
    ∃ v' w' g', (Instr.makeSlice t lv cv).run E.P w = .ok v' w' ∧ V g' w' v v' ∧ Ext L g w g' w' ∧ Inv E g' w' s' := by
  unfold makeSliceA at h
  split at h
  · rename_i elem len cap hu
    have e1 := hl.scv_inv
    have e2 := hc.scv_inv
    subst e1; subst e2
    split at h
    · rename_i i z hi hz
      split at h
      · rename_i hcnd
        obtain ⟨h0, hle, hc40, hcb, hzl, hk⟩ := hcnd
        obtain ⟨i', zv, hi', hzv, hrun, hvl⟩ := zeroOf_sound (g := g) (w := w) hz
        have : i' = i := by grind
        subst this
        have hzs : zv.cells.size = i'.size := by rw [← Array.length_toList, ← hvl.len]; omega
        have hr := makeSlice_run (w := w) hu hi hrun hzs hk h0 hle hc40 hcb
        split at h
        · rename_i hc0
          subst hc0
          simp only [Option.some.injEq, Prod.mk.injEq] at h
          obtain ⟨rfl, rfl⟩ := h
          have hl0 : len = 0 := by omega
          subst hl0
          obtain ⟨a1, a2⟩ := hI.pushI (L := L) (repl (0 : Int).toNat zv.cells.toList) elem
          exact ⟨_, _, _, hr, V.capped (b := 0) (o := 0) (sz := 0) (f := fun _ _ => undef) .nil, a1, a2⟩
        · split at h
          · rename_i hcz hlc
            subst hlc
            simp only [Option.some.injEq, Prod.mk.injEq] at h
            obtain ⟨rfl, rfl⟩ := h
            have hv2 := hvl.repl len.toNat
            obtain ⟨a1, a2⟩ := hI.pushB (L := L) elem hv2.full.1 hv2.full.2
            refine ⟨_, _, _, hr, V.ref (b := w.heap.size) (e := elem) (n := (repl len.toNat zv.cells.toList).length) ?_ (Nat.le_refl _) ?_ ?_, a1, a2⟩
            · simp [Ghost.addB]
            · exact shape_of_heap (by rw [heap_pushW, if_pos rfl])
            grind[repl_length]
          · split at h
            · rename_i hl0
              subst hl0
              simp only [Option.some.injEq, Prod.mk.injEq] at h
              obtain ⟨rfl, rfl⟩ := h
              obtain ⟨a1, a2⟩ := hI.pushT (L := L) (t := s.ts.length) (n := 0) (cap := cap.toNat) (sz := i'.size) (vs := repl cap.toNat zv.cells.toList) (e := elem) (by grind[repl_length]) (Nat.zero_le _) hk (by grind[sizeA]) (.inl ⟨rfl, rfl⟩)
              refine ⟨_, _, _, hr, ?_, a1, a2⟩
              exact V.own (b := w.heap.size) (o := 0) (sz := i'.size) (f := fun _ _ => undef) (l := ⟨w.heap.size, cap.toNat, i'.size, 0, elem⟩) .nil (Nat.zero_le _) (by simp [Ghost.setT]) (Nat.le_refl _) (fun _ => ⟨rfl, rfl, rfl, rfl, rfl⟩)
            grind
      grind
    grind
  grind
theorem cellBytes_sound {g : Ghost} {w : World} (cs : List AV) : ∀ (l : List UInt8) (us : List Value), cellBytes cs = some l → VL g w cs us →
    ∃ ns : List Int, l = ns.map (fun n => UInt8.ofNat n.toNat) ∧ us = ns.map (Value.int .u8) := by
  induction cs with
  | nil => intro l us h hv; simp [cellBytes] at h; subst h; exact ⟨[], rfl, hv.nil_inv⟩
  | cons r cs ih =>
    intro l us h hv
    obtain ⟨u, us', rfl, h1, h2⟩ := hv.cases
    unfold cellBytes at h
    split at h
    · grind
    · rename_i n rest heq
      cases heq
      split at h
      · rename_i l' hl'
        simp at h; subst h
        obtain ⟨ns, rfl, rfl⟩ := ih l' us' hl' h2
        exact ⟨n :: ns, rfl, by rw [h1.scv_inv]; rfl⟩
      grind
    grind
theorem V.string_inv {g : Ghost} {w : World} {y : AV} {b : ByteArray} (h : V g w y (.string b)) : y = .pv (.sc (.string b)) := by
  cases h with | pv h => cases h; rfl
theorem foldl_push (ns : List Int) : ∀ b : ByteArray, ns.foldl (fun r n => r.push (UInt8.ofNat n.toNat)) b = ⟨b.data ++ (ns.map (fun n => UInt8.ofNat n.toNat)).toArray⟩ := by
  induction ns with
  | nil => simp
  | cons n ns ih =>
    simp[*]
theorem sliceBytes_sound {E : Env} {g : Ghost} {w : World} {s : Sto} (hI : Inv E g w s) {y : AV} {yv : Value} {l : List UInt8} (hy : V g w y yv) (h : sliceBytes s y = some l) :
    (∃ a n c, yv = .slice a n c) ∧ (Conv.bytesToString yv).run E.P w = .ok (.string ⟨l.toArray⟩) w := by
  unfold sliceBytes at h
  split at h
  · grind
  · rename_i hns
    split at h
    · rename_i cs hcs
      obtain ⟨n, us, h1, h2, h3, h4⟩ := srcCells_sound hI hy (by decide) hcs
      obtain ⟨ns, rfl, rfl⟩ := cellBytes_sound cs l us h h4
      have h3 := h3 w rfl
      cases yv with
      | slice a m c =>
        refine ⟨⟨a, m, c, rfl⟩, ?_⟩
        simp [Builtin.lenOf] at h1
        subst h1
        cases a with
        | none =>
          simp [Builtin.firstCells] at h3
          simp [h3, Conv.bytesToString]
          rfl
        | some a =>
          simp only [Builtin.firstCells, Nat.mul_one] at h3
          rw [run_bytesToString w a m c ns h3, foldl_push]
          simp
      | string b => exact absurd hy.string_inv (hns _)
      | _ => simp_all[Builtin.lenOf]
    grind
theorem stringToBytes_sound {E : Env} {L : Lim} {g : Ghost} {w : World} {s : Sto} (hI : Inv E g w s) (e : TypeId) (b : ByteArray) :
    ∃ v' w' g', (Conv.stringToBytes e b).run E.P w = .ok v' w' ∧ V g' w' (.pv (.list (b.data.toList.map fun b => [.sc (.int .u8 b.toNat)]))) v' ∧ Ext L g w g' w' ∧ Inv E g' w' s := by
  obtain ⟨e1, i1⟩ := hI.drew (L := L)
  have hcap : ∃ cap vs fz, b.size ≤ cap ∧ (∀ (q : Nat) (x : UInt8), b.data.toList[q]? = some x → vs[q]? = some (Value.int .u8 x.toNat)) ∧
      (Conv.stringToBytes e b).run E.P w = .ok (.slice (some ⟨w.heap.size, 0, none⟩) b.size cap) (objW (drewW w) (.cells ⟨vs⟩ e fz)) := by
    obtain ⟨q, hq⟩ : ∃ q, q = w.tape w.drawn (.appendCap b.size 0 e) % (2 ^ 63 - b.size) := ⟨_, rfl⟩
    obtain ⟨vs, hvs⟩ : ∃ vs, vs = b.data.toList.map (fun b => Value.int .u8 b.toNat) ++ List.replicate q (Value.int .u8 0) := ⟨_, rfl⟩
    refine ⟨b.size + q, vs, (vs.length, vs.length + 1), Nat.le_add_right _ _, ?_, ?_⟩
    · grind
    · have harr : (b.data.map fun b => Value.int .u8 b.toNat) ++ Array.replicate (b.size + q - b.size) (Value.int .u8 0) = ⟨vs⟩ := by grind
      have hsh : (objW (drewW w) (.cells ⟨vs⟩ e)).shape? w.heap.size = some (e, vs.length) := by grind[World.shape?,heap_objW,drewW]
      have hfz : (objW (drewW w) (.cells ⟨vs⟩ e)).freeze ⟨w.heap.size, vs.length, none⟩ 1 = objW (drewW w) (.cells ⟨vs⟩ e (vs.length, vs.length + 1)) := by
        refine world_ext ?_ rfl rfl rfl rfl
        apply Array.ext_getElem?
        grind[heap_objW,World.freeze,drewW]
      simp only [Conv.stringToBytes, Sem.run_bind, run_choose, Question.forced, Question.cut, Bool.false_eq_true, if_false, Result.andThen_ok, newRow, run_newObj, Sem.run_pure, markStringish, run_shape]
      grind[objW,drewW,run_freeze,Result.andThen_ok]
  obtain ⟨cap, vs, fz, hc, hvs, hrun⟩ := hcap
  obtain ⟨e2, i2⟩ := i1.pushO (L := L) (.cells ⟨vs⟩ e fz)
  refine ⟨_, _, _, hrun, ?_, e1.trans e2, i2⟩
  have hra : RowsAt (g.addI fun b _ => b = (drewW w).heap.size).I (objW (drewW w) (.cells ⟨vs⟩ e fz)) (b.data.toList.map fun b => [PV.sc (.int .u8 b.toNat)]) (some ⟨w.heap.size, 0, none⟩) w.heap.size 0 1 (fun i _ => (vs[i]?).getD undef) := by
    refine ⟨fun row hr => ?_, fun _ _ => rfl, fun i row j c hr hj => ?_, fun i row j c hr hj => ?_⟩
    · grind
    · rw [List.getElem?_map] at hr
      cases hx : b.data.toList[i]? with
      | none => grind
      | some x =>
        simp [hx] at hr; subst hr
        have hj0 : j = 0 := by grind
        subst hj0
        refine ⟨.inr rfl, ?_⟩
        rw [cell_of_heap (by rw [heap_objW]; exact if_pos rfl)]
        grind
    · rw [List.getElem?_map] at hr
      cases hx : b.data.toList[i]? with
      | none => grind
      | some x =>
        simp [hx] at hr; subst hr
        have hj0 : j = 0 := by grind
        subst hj0
        simp at hj; subst hj
        rw [hvs i x hx]
        exact .sc _
  have hlen : (b.data.toList.map fun b => [PV.sc (Value.int .u8 b.toNat)]).length = b.size := by simp
  have := VP.of_rows hra (show _ ≤ cap by omega)
  rw [hlen] at this
  exact .pv this
end Go.Tel
/-
  Single operations, part 11: all together.
-/
namespace Go.Tel
def Gives (E : Env) (o : Oper) (a : Act) (w : World) (v : Value) (w' : World) : Prop :=
  (execOp a.eval o).run E.P w = .ok (.value v) w' ∨ ((execOp a.eval o).run E.P w = .ok .skip w' ∧ v = undef)
theorem someKind_sound {E : Env} {g : Ghost} {w : World} {s : Sto} (hI : Inv E g w s) {x : AV} {v : Value} {k : Nat} (hx : V g w x v) (h : someKind s x = some k) :
    (k = 0 ∧ ∃ a, v = .pointer (some a)) ∨ (k = 1 ∧ ∃ a n c, v = .slice (some a) n c) ∨ (k = 2 ∧ ∃ f p q, v = .func f p q) ∨ (k = 3 ∧ ∃ t u, v = .iface t u) := by
  unfold someKind at h
  split at h
  · rename_i id off
    cases hal : Tel.alive s id with
    | false => grind
    | true =>
      simp [hal] at h
      cases hx with
      | ptr => grind
      | ptrD hd => exact absurd hd (hI.alive hal)
  · simp at h; cases hx with | gptr => grind
  · simp at h; cases hx with | eptr => grind
  · simp at h; cases hx with | func => grind
  · simp at h; cases hx with | iface => grind
  · rename_i id off len sz
    cases hal : Tel.alive s id with
    | false => grind
    | true =>
      simp [hal] at h
      cases hx with
      | ref => grind
      | refD hd => exact absurd hd (hI.alive hal)
  · split at h
    · rename_i c r rs hr
      simp at h
      obtain ⟨base, cap, b, o, sz, f, rfl, _, hra⟩ := rowsOf_sound hx hr
      have := hra.hbase (by simp) (by rw [← hra.hsz (c :: r) (by simp)]; simp)
      grind
    grind
theorem nilKind_sound {g : Ghost} {w : World} {ρ : Nat → AV} {a : Act} (hρ : ∀ t, V g w (ρ t) (a.tmps.getD t undef)) {x : Operand} {k : Nat} (h : nilKind ρ x = some k) :
    (k = 0 ∧ a.eval x = .pointer none) ∨ (k = 1 ∧ a.eval x = .slice none 0 0) ∨ (k = 2 ∧ a.eval x = .nilFunc) ∨ (k = 3 ∧ a.eval x = .nilIface) := by
  unfold nilKind at h
  split at h
  · simp at h; exact .inr (.inl ⟨h.symm, rfl⟩)
  · have hx := evalO_sound hρ x
    split at h
    · rename_i e; rw [e] at hx; simp at h; exact .inl ⟨h.symm, hx.scv_inv⟩
    · rename_i e; rw [e] at hx; simp at h; exact .inr (.inr (.inl ⟨h.symm, hx.scv_inv⟩))
    · rename_i e; rw [e] at hx; simp at h; exact .inr (.inr (.inr ⟨h.symm, hx.scv_inv⟩))
    grind
theorem typeKind_sound {P : Program} {t : TypeId} {k : Nat} (h : typeKind P t = some k) :
    (k = 0 ∧ ∃ e, P.underlying t = some (.pointer e)) ∨ (k = 1 ∧ ∃ e, P.underlying t = some (.slice e)) ∨ (k = 2 ∧ ∃ p r v, P.underlying t = some (.func p r v)) ∨ (k = 3 ∧ ∃ m, P.underlying t = some (.interface m)) := by grind[typeKind]
theorem sameKind_sound {a b c : Option Nat} (h : sameKind a b c = true) : ∃ k, a = some k ∧ b = some k ∧ c = some k := by
  unfold sameKind at h
  split at h
  · rename_i x y z
    simp at h
    grind
  grind
theorem equal_nil {P : Program} {w : World} {t : TypeId} {x y : Value} {k : Nat} (ht : typeKind P t = some k)
    (hx : (k = 0 ∧ ∃ a, x = .pointer (some a)) ∨ (k = 1 ∧ ∃ a n c, x = .slice (some a) n c) ∨ (k = 2 ∧ ∃ f p q, x = .func f p q) ∨ (k = 3 ∧ ∃ t u, x = .iface t u))
    (hy : (k = 0 ∧ y = .pointer none) ∨ (k = 1 ∧ y = .slice none 0 0) ∨ (k = 2 ∧ y = .nilFunc) ∨ (k = 3 ∧ y = .nilIface)) :
    (Op.equal t x y).run P w = .ok false w ∧ (Op.equal t y x).run P w = .ok false w := by
  obtain ⟨n, hd⟩ : ∃ n, Op.maxDepth = n + 1 := ⟨9999, rfl⟩
  unfold Op.equal
  rw [hd]
  rcases typeKind_sound ht with ⟨rfl, e, hu⟩ | ⟨rfl, e, hu⟩ | ⟨rfl, p, r, v, hu⟩ | ⟨rfl, m, hu⟩
  all_goals
    rcases hx with ⟨h1, hx⟩ | ⟨h1, hx⟩ | ⟨h1, hx⟩ | ⟨h1, hx⟩ <;> (first | omega | skip)
    rcases hy with ⟨h2, hy⟩ | ⟨h2, hy⟩ | ⟨h2, hy⟩ | ⟨h2, hy⟩ <;> (first | omega | skip)
  · obtain ⟨a, rfl⟩ := hx; simp[*,Op.equalIn,run_underlying]
  · obtain ⟨a, _, c, rfl⟩ := hx; subst hy
    constructor <;> simp[*,Op.equalIn,run_underlying] <;> rfl
  · obtain ⟨f, p, q, rfl⟩ := hx; subst hy
    constructor <;> simp[*,Op.equalIn,run_underlying]
  · obtain ⟨t, u, rfl⟩ := hx; simp[*,Op.equalIn,run_underlying]
theorem binOp_nil {t : TypeId} {x y : Value} {k : Nat}
    (hx : (k = 0 ∧ ∃ a, x = .pointer (some a)) ∨ (k = 1 ∧ ∃ a n c, x = .slice (some a) n c) ∨ (k = 2 ∧ ∃ f p q, x = .func f p q) ∨ (k = 3 ∧ ∃ t u, x = .iface t u))
    (hy : (k = 0 ∧ y = .pointer none) ∨ (k = 1 ∧ y = .slice none 0 0) ∨ (k = 2 ∧ y = .nilFunc) ∨ (k = 3 ∧ y = .nilIface)) :
    (binOp .eql t x y = (do pure (.bool (← Op.equal t x y))) ∧ binOp .neq t x y = (do pure (.bool (!(← Op.equal t x y))))) ∧
    (binOp .eql t y x = (do pure (.bool (← Op.equal t y x))) ∧ binOp .neq t y x = (do pure (.bool (!(← Op.equal t y x))))) := by
  rcases hx with ⟨h1, a, rfl⟩ | ⟨h1, a, n, c, rfl⟩ | ⟨h1, f, p, q, rfl⟩ | ⟨h1, t, u, rfl⟩ <;>
  rcases hy with ⟨h2, rfl⟩ | ⟨h2, rfl⟩ | ⟨h2, rfl⟩ | ⟨h2, rfl⟩ <;> exact ⟨⟨rfl, rfl⟩, ⟨rfl, rfl⟩⟩
theorem bytesEq_sound : ∀ (a b : List UInt8), bytesEq a b = true → a = b := by
  intro a
  induction a with
  | nil => grind[bytesEq]
  | cons x xs ih =>
    intro b h
    cases b with
    | nil => grind[bytesEq]
    | cons y ys =>
      grind[bytesEq,UInt8.toNat_inj,Nat.eq_of_beq_eq_true]
theorem bytesEq_iff (a b : List UInt8) : bytesEq a b = (a == b) := by
  rw [Bool.eq_iff_iff, beq_iff_eq]
  refine ⟨bytesEq_sound a b, fun h => ?_⟩
  subst h
  induction a with
  | nil => rfl
  | cons x xs ih => simp[*,bytesEq]
theorem bytesLt_eq : ∀ a b : List UInt8, bytesLt a b = Op.bytesLess a b
  | _, [] => by cases ‹List UInt8› <;> rfl
  | [], _ :: _ => rfl
  | x :: xs, y :: ys => by
    simp only [bytesLt, Op.bytesLess, bytesLt_eq xs ys]
    grind[Nat.blt_eq,UInt8.lt_iff_toNat_lt,Nat.beq_eq,UInt8.toNat_inj]
theorem findStr_eq {a : ByteArray} : ∀ {es : List MapEntry} {i : Nat} {r : Option (Nat × Value)}, findStr a.data.toList es i = some r → Instr.findNow .string (.string a) es i = some r
  | [], _, _, h => by assumption
  | e :: es, i, r, h => by
    simp only [findStr] at h
    split at h
    · rename_i b hk
      have hb : bytesEq a.data.toList b.data.toList = (a == b) := by
        have e1 : (a == b) = (a.data == b.data) := by rfl
        grind[bytesEq_iff,Array.ext']
      simp only [Instr.findNow, Instr.sameNow, hk, ← hb]
      cases hc : bytesEq a.data.toList b.data.toList with
      | true => grind
      | false => rw [hc] at h; exact findStr_eq h
    grind
theorem run_getObj' {P : Program} {w : World} {r : Nat} {es : Array MapEntry} {c : Nat} (h : w.heap[r]? = some (.map es c)) : (getObj r).run P w = .ok (.map es c) w := by grind[getObj,Sem.run]
def setW (w : World) (r : Nat) (o : Obj) : World := { w with heap := w.heap.set! r o }
theorem run_setObj' {P : Program} {w : World} {r : Nat} {o : Obj} {es : Array MapEntry} {c : Nat} (h : w.heap[r]? = some (.map es c)) : (setObj r o).run P w = .ok () (setW w r o) := by
  simp only [setObj, Sem.run, h]
  rfl
theorem heap_setW {w : World} {r : Nat} {o : Obj} (h : r < w.heap.size) (k : Nat) : (setW w r o).heap[k]? = if k = r then some o else w.heap[k]? := by grind[setW]
theorem findA_sound {P : Program} {t : TypeId} {k : Value} {es : List MapEntry} {r : Option (Nat × Value)} (h : findA P t k es = some r) (w : World) (empty : Bool) :
    (Instr.checkKey empty 10000 t k).run P w = .ok () w ∧ (Instr.findKey t k es).run P w = .ok r w := by
  unfold findA at h
  split at h
  · rename_i i hu
    refine ⟨?_, by simp[*,Instr.findKey,run_underlying]⟩
    obtain ⟨n, hn⟩ : ∃ n, 10000 = n + 1 := ⟨9999, rfl⟩
    rw [hn]
    simp[*,Instr.checkKey,run_underlying]
  · rename_i hu
    split at h
    · rename_i b
      refine ⟨?_, by simp[*,Instr.findKey,run_underlying,findStr_eq]⟩
      obtain ⟨n, hn⟩ : ∃ n, 10000 = n + 1 := ⟨9999, rfl⟩
      rw [hn]
      simp[*,Instr.checkKey,run_underlying]
    grind
  grind
theorem lookMap_sound {E : Env} {g : Ghost} {w : World} {s : Sto} (hI : Inv E g w s) {m : AV} {mv : Value} {es : List MapEntry} {clock : Nat} (hm : V g w m mv) (h : lookMap s m = some (es, clock)) :
    ∃ id b, m = .mref id ∧ g.mp id = some b ∧ mv = .map (some b) ∧ w.heap[b]? = some (.map es.toArray clock) := by
  unfold lookMap at h
  split at h
  · rename_i id
    split at h
    · rename_i es' c' hs
      simp at h
      obtain ⟨rfl, rfl⟩ := h
      cases hm with
      | @mref _ b hb =>
        obtain ⟨es2, c2, h1, h2⟩ := hI.mp id b hb
        grind
    grind
  grind
theorem concC_sound {g : Ghost} {w : World} {x : AV} {v u : Value} (h : V g w x v) (hc : concC x = some u) : v = u := by
  unfold concC at hc
  split at hc
  · simp at hc; subst hc; exact h.scv_inv
  · simp at hc; subst hc
    cases h with
    | @func _ _ _ vs us hl hm _ _ =>
      grind
  grind
theorem concCs_sound {g : Ghost} {w : World} : ∀ {cs : List AV} {vs us : List Value}, concCs cs = some vs → VL g w cs us → us = vs
  | [], vs, us, h, hl => by simp [concCs] at h; subst h; exact hl.nil_inv
  | c :: cs, vs, us, h, hl => by
    simp only [concCs] at h
    split at h
    · rename_i v ws hv hw
      simp at h; subst h
      obtain ⟨u, us', rfl, h1, h2⟩ := hl.cases
      rw [concC_sound h1 hv, concCs_sound hw h2]
    grind
theorem concE_sound {g : Ghost} {w : World} {x : AV} {v u : Value} (h : V g w x v) (hc : concE x = some u) : v = u := by
  unfold concE at hc
  split at hc
  · split at hc
    · rename_i vs hv
      simp at hc; subst hc
      obtain ⟨us, rfl, hl⟩ := h.agg_inv
      grind[concCs_sound]
    grind
  grind[concC_sound]
theorem VL.scs {g : Ghost} {w : World} : ∀ vs : List Value, VL g w (vs.map Tel.scv) vs
  | [] => .nil
  | v :: vs => .cons (.pv (.sc v)) (VL.scs vs)
theorem ofCellE_sound {g : Ghost} {w : World} (v : Value) : V g w (ofCellE v) v := by
  unfold ofCellE
  split
  · rename_i fn a b
    have h1 := VL.scs (g := g) (w := w) a.toList
    have h2 := VL.scs (g := g) (w := w) b.toList
    have := V.func (fn := fn) h1.len h2.len h1.at_ h2.at_
    omega
  · exact .pv (.sc v)
theorem VL.cellEs {g : Ghost} {w : World} : ∀ vs : List Value, VL g w (vs.map ofCellE) vs
  | [] => .nil
  | v :: vs => .cons (ofCellE_sound v) (VL.cellEs vs)
theorem ofEl_sound {g : Ghost} {w : World} (v : Value) : V g w (ofEl v) v := by
  unfold ofEl
  split
  · rename_i cs
    have := V.agg' (VL.cellEs (g := g) (w := w) cs.toList)
    omega
  · rename_i fn a b
    have h1 := VL.scs (g := g) (w := w) a.toList
    have h2 := VL.scs (g := g) (w := w) b.toList
    have := V.func (fn := fn) h1.len h2.len h1.at_ h2.at_
    omega
  grind[V.ofVal]
theorem lookupA_sound {E : Env} {g : Ghost} {w : World} {s : Sto} (hI : Inv E g w s) {t : TypeId} {m k r : AV} {mv kv : Value} {ok : Bool} (hm : V g w m mv) (hk : V g w k kv) (h : lookupA E.P s t m k ok = some r) :
    ∃ v', (Instr.lookup t mv kv ok).run E.P w = .ok v' w ∧ V g w r v' := by
  unfold lookupA at h
  split at h
  · rename_i kt elem es clock key hu hl hc
    have hkv : kv = key := by
      unfold conc at hc
      split at hc
      · simp at hc; subst hc; exact hk.scv_inv
      grind
    subst hkv
    obtain ⟨id, b, rfl, hb, rfl, hh⟩ := lookMap_sound hI hm hl
    have fin : ∀ (x : AV) (v : Value) (q : Bool), V g w x v → V g w (bif ok then .tuple [x, scv (.bool q)] else x) (if ok then .tuple #[v, .bool q] else v) := fun x v q hx => by
      cases ok
      · grind
      · exact V.tuple' (.cons hx (.cons (.pv (.sc _)) .nil))
    split at h
    · rename_i i v hf
      simp at h; subst h
      obtain ⟨h1, h2⟩ := findA_sound hf w es.toArray.isEmpty
      refine ⟨_, ?_, fin _ v true (ofEl_sound v)⟩
      simp only [Instr.lookup, Sem.run_bind, run_underlying hu, Result.andThen_ok, run_getObj' hh, Sem.run_pure, h1, h2]
    · rename_i hf
      split at h
      · rename_i i hi
        split at h
        · rename_i z hz
          simp at h; subst h
          obtain ⟨h1, h2⟩ := findA_sound hf w es.toArray.isEmpty
          refine ⟨_, ?_, fin _ z false (V.ofConst z)⟩
          simp only [Instr.lookup, Sem.run_bind, run_underlying hu, Result.andThen_ok, run_getObj' hh, Sem.run_pure, h1, h2, zeroValue, run_typeInfo hi, hz]
        grind
      grind
    grind
  grind
theorem Inv.putMap {E : Env} {L : Lim} {g : Ghost} {w : World} {s : Sto} (h : Inv E g w s) {id b : Nat} {es : List MapEntry} {clock : Nat} (hb : g.mp id = some b) (hro : L.ro ≤ id) :
    Ext L g w g (setW w b (.map es.toArray clock)) ∧ Inv E g (setW w b (.map es.toArray clock)) { s with bs := s.bs.set id [.mobj es clock] } := by
  have hlt := h.mpLt hb
  have hne : ∀ k, k ≠ b → (setW w b (.map es.toArray clock)).heap[k]? = w.heap[k]? := fun k hk => by grind[heap_setW]
  have hat : (setW w b (.map es.toArray clock)).heap[b]? = some (.map es.toArray clock) := by grind[heap_setW]
  have hsz : (setW w b (.map es.toArray clock)).heap.size = w.heap.size := by simp [setW]
  obtain ⟨es0, c0, _, hold⟩ := h.mp id b hb
  have hcell : ∀ k o, (setW w b (.map es.toArray clock)).cell? ⟨k, o, none⟩ = w.cell? ⟨k, o, none⟩ := fun k o => by grind[World.cell?]
  have ext : Ext L g w g (setW w b (.map es.toArray clock)) := {
    os := rfl, tape := rfl, output := rfl, size := by omega
    mono := fun _ _ hi => hi
    cell := fun k o _ => hcell k o
    blk := fun _ _ hi => .inl hi
    dead := fun _ hi => hi
    shape := fun id' b' hb' _ => shape_congr (hne b' (fun e => h.mpB hb (e ▸ hb')))
    tok := fun _ l hl => ⟨l, hl, .inl rfl⟩
    keepB := fun id' b' hb' _ => ⟨hb', hne b' (fun e => h.mpB hb (e ▸ hb'))⟩
    keepT := fun t l hl _ => ⟨hl, hne _ (fun e => h.mpT hb hl e.symm), fun _ ho => ho⟩
    out := fun k _ _ _ h3 => ⟨hne k (fun e => h3 id (e ▸ hb)), fun _ ho => ho⟩
    mp := fun _ _ hb => hb
    keepM := fun id' b' hb' => ⟨fun hlt' => hne b' (fun e => by subst e; have := h.injM id id' b' hb hb'; omega), fun _ ho => ho⟩
    newM := fun id' _ hb _ => ⟨id', hb⟩
    newB := fun id' _ hb _ => ⟨id', hb⟩
    pend := fun _ h => h
    newT := fun _ l hl _ => ⟨l, hl, rfl⟩ }
  refine ⟨ext, ?_⟩
  have hnid : ∀ id' b', g.blk id' = some b' → id ≠ id' := fun id' b' hb' => Ne.symm (h.mpNe hb' hb)
  exact {
    blkN := fun id' b' hb' => by simpa using h.blkN id' b' hb'
    deadN := fun id' hd => by simpa using h.deadN id' hd
    deadE := fun id' hd => by
      have hid : id ≠ id' := fun e => by subst e; exact (h.mpX _ b hb).2.1 hd
      simp only [List.getElem?_set_ne hid]; exact h.deadE id' hd
    blk := fun id' b' hb' => by
      obtain ⟨cs, us, e', h1, h2, h3, h4⟩ := h.blk id' b' hb'
      exact ⟨cs, us, e', by grind, by grind, h3, h4.mono ext⟩
    blkI := h.blkI
    tokN := h.tokN
    tokL := h.tokL
    tok := fun t l hl => by
      obtain ⟨us, e', h1, h2⟩ := h.tok t l hl
      grind
    tokI := h.tokI
    injB := h.injB
    injT := h.injT
    injBT := h.injBT
    Ilt := fun k o hi => by rw [hsz]; exact h.Ilt k o hi
    allB := fun id hid => h.allB id (by grind)
    mp := fun id' b' hb' => by
      by_cases e : id' = id
      · grind
      · obtain ⟨es', c', h1, h2⟩ := h.mp id' b' hb'
        exact ⟨es', c', by grind, by rw [hne b' (fun q => by subst q; exact e (h.injM id' id b' hb' hb))]; omega⟩
    mpX := h.mpX
    injM := h.injM
    pendN := fun id hp => by obtain ⟨a, b, c⟩ := h.pendN id hp; grind
    glob := fun gl row hr j c hj => by
      obtain ⟨v, h1, h2, h3⟩ := h.glob gl row hr j c hj
      exact ⟨v, h1, by grind, h3.mono ext.mono ext.cell⟩
    globN := fun gl row hr => by
      obtain ⟨h1, h2⟩ := h.globN gl row hr
      grind }
theorem setMap_sound {E : Env} {L : Lim} {g : Ghost} {w : World} {s s' : Sto} (hI : Inv E g w s) {id b : Nat} {es : List MapEntry} {clock : Nat} (hb : g.mp id = some b) (h : setMap L s es clock (.mref id) = some s') :
    Ext L g w g (setW w b (.map es.toArray clock)) ∧ Inv E g (setW w b (.map es.toArray clock)) s' := by
  unfold setMap at h
  cases hc : Nat.ble L.ro id with
  | false => grind
  | true =>
    simp only [hc, cond_true, Option.some.injEq] at h
    subst h
    exact hI.putMap hb (Nat.le_of_ble_eq_true hc)
theorem modify_toArray {α : Type} (l : List α) (i : Nat) (f : α → α) : l.toArray.modify i f = (l.modify i f).toArray := by simp
theorem mapUpdateA_sound {E : Env} {L : Lim} {g : Ghost} {w : World} {s s' : Sto} (hI : Inv E g w s) {t : TypeId} {m k x : AV} {mv kv xv : Value} (hm : V g w m mv) (hk : V g w k kv) (hx : V g w x xv) (h : mapUpdateA E.P L s t m k x = some s') :
    ∃ w', (Instr.mapUpdate t mv kv xv).run E.P w = .ok () w' ∧ Ext L g w g w' ∧ Inv E g w' s' := by
  unfold mapUpdateA at h
  split at h
  · rename_i kt elem es clock key v hu hl hc hv
    have hkv : kv = key := by
      unfold conc at hc
      split at hc
      · simp at hc; subst hc; exact hk.scv_inv
      grind
    subst hkv
    have hxv := concE_sound hx hv
    subst hxv
    obtain ⟨id, b, rfl, hb, rfl, hh⟩ := lookMap_sound hI hm hl
    split at h
    · rename_i i u hf
      obtain ⟨h1, h2⟩ := findA_sound hf w false
      split at h
      · rename_i old hold
        cases hs : Instr.sameBits 10000 old kv with
        | false => grind
        | true =>
          simp only [hs, cond_true] at h
          obtain ⟨r1, r2⟩ := setMap_sound hI hb h
          refine ⟨_, ?_, r1, r2⟩
          have hold' : ((es.toArray[i]?).map (·.key)).getD kv = old := by grind
          simp only [Instr.mapUpdate, Sem.run_bind, run_underlying hu, Result.andThen_ok, run_getObj' hh, Sem.run_pure, h1, h2, Instr.keyThatStays, hold', hs, if_true, run_setObj' hh, modify_toArray]
      grind
    · rename_i hf
      obtain ⟨h1, h2⟩ := findA_sound hf w false
      obtain ⟨r1, r2⟩ := setMap_sound hI hb h
      refine ⟨_, ?_, r1, r2⟩
      have hp : es.toArray.push ({ key := kv, val := xv, born := clock } : MapEntry) = (es ++ [({ key := kv, val := xv, born := clock } : MapEntry)]).toArray := by simp
      simp only [Instr.mapUpdate, Sem.run_bind, run_underlying hu, Result.andThen_ok, run_getObj' hh, h1, h2, run_setObj' hh, hp]
    grind
  grind
theorem deleteA_sound {E : Env} {L : Lim} {g : Ghost} {w : World} {s s' : Sto} (hI : Inv E g w s) {t ty : TypeId} {ts : List TypeId} {m k : AV} {mv kv : Value} (hm : V g w m mv) (hk : V g w k kv) (h : deleteA E.P L s t m k = some s') :
    ∃ w', (Builtin.delete_ (t :: ts).toArray ty #[mv, kv]).run E.P w = .ok undef w' ∧ Ext L g w g w' ∧ Inv E g w' s' := by
  unfold deleteA at h
  split at h
  · rename_i kt elem es clock key hu hl hc
    have hkv : kv = key := by
      unfold conc at hc
      split at hc
      · simp at hc; subst hc; exact hk.scv_inv
      grind
    subst hkv
    obtain ⟨id, b, rfl, hb, rfl, hh⟩ := lookMap_sound hI hm hl
    split at h
    · rename_i i u hf
      obtain ⟨h1, h2⟩ := findA_sound hf w es.isEmpty
      obtain ⟨r1, r2⟩ := setMap_sound hI hb h
      refine ⟨_, ?_, r1, r2⟩
      simp [Builtin.delete_, run_underlying hu, run_getObj' hh, h1, h2, run_setObj' hh, undef]
    · rename_i hf
      obtain ⟨h1, h2⟩ := findA_sound hf w es.isEmpty
      obtain ⟨r1, r2⟩ := setMap_sound hI hb h
      refine ⟨_, ?_, r1, r2⟩
      simp [Builtin.delete_, run_underlying hu, run_getObj' hh, h1, h2, run_setObj' hh, undef]
    grind
  grind
def Ghost.addM (g : Ghost) (id b : Nat) : Ghost := { g with mp := fun i => if i = id then some b else g.mp i }
theorem Inv.newMap {E : Env} {L : Lim} {g : Ghost} {w : World} {s : Sto} (h : Inv E g w s) :
    Ext L g w (g.addM s.bs.length w.heap.size) (objW w (.map #[] 0)) ∧ Inv E (g.addM s.bs.length w.heap.size) (objW w (.map #[] 0)) { s with bs := s.bs ++ [[.mobj [] 0]] } := by
  have hsz : (objW w (.map #[] 0)).heap.size = w.heap.size + 1 := by simp [objW]
  have hnone : g.mp s.bs.length = none := by
    cases hb : g.mp s.bs.length with
    | none => rfl
    | some b => have := h.mpN hb; omega
  have keep : ∀ id b, g.mp id = some b → (g.addM s.bs.length w.heap.size).mp id = some b := fun id b hb => (if_neg (fun e => by grind)).trans hb
  have inv : ∀ id b, (g.addM s.bs.length w.heap.size).mp id = some b → (id = s.bs.length ∧ b = w.heap.size) ∨ g.mp id = some b := fun id b hb => by grind[Ghost.addM]
  have ext : Ext L g w (g.addM s.bs.length w.heap.size) (objW w (.map #[] 0)) := {
    os := rfl, tape := rfl, output := rfl, size := by omega
    mono := fun _ _ hi => hi
    cell := fun k o hi => cell?_congr (heap_objW_lt (h.Ilt k o hi)) o
    blk := fun _ _ hb => .inl hb
    dead := fun _ hd => hd
    shape := fun id b hb _ => shape_congr (heap_objW_lt (h.blkLt hb))
    tok := fun _ l hl => ⟨l, hl, .inl rfl⟩
    keepB := fun id b hb _ => ⟨hb, heap_objW_lt (h.blkLt hb)⟩
    keepT := fun t l hl _ => ⟨hl, heap_objW_lt (h.tokLt hl), fun _ ho => ho⟩
    out := fun k hk _ _ _ => ⟨heap_objW_lt hk, fun _ ho => ho⟩
    mp := keep
    keepM := fun _ b' hb' => ⟨fun _ => heap_objW_lt (h.mpLt hb'), fun _ ho => ho⟩
    newM := fun id b hb hlt => by grind
    newB := fun id _ hb _ => ⟨id, hb⟩
    pend := fun _ h => h
    newT := fun _ l hl _ => ⟨l, hl, rfl⟩ }
  refine ⟨ext, ?_⟩
  exact {
    blkN := fun id b hb => by have := h.blkN id b hb; grind
    deadN := fun id hd => by have := h.deadN id hd; grind
    deadE := fun id hd => by rw [List.getElem?_append_left (h.deadN id hd)]; exact h.deadE id hd
    blk := fun id b hb => by
      obtain ⟨cs', us, e', h1, h2, h3, h4⟩ := h.blk id b hb
      exact ⟨cs', us, e', by grind, by grind[heap_objW_lt], h3, h4.mono ext⟩
    blkI := h.blkI
    tokN := h.tokN
    tokL := h.tokL
    tok := fun t l hl => by
      obtain ⟨us, e', h1, h2⟩ := h.tok t l hl
      grind[heap_objW_lt]
    tokI := h.tokI
    injB := h.injB
    injT := h.injT
    injBT := h.injBT
    Ilt := fun k o hi => by rw [hsz]; have := h.Ilt k o hi; omega
    allB := fun id hid => by
      by_cases e : id = s.bs.length
      · exact .inr (.inr (.inr ⟨_, if_pos e⟩))
      · rcases h.allB id (by grind) with q | q | q | ⟨b, q⟩
        · exact .inl q
        · exact .inr (.inl q)
        · exact .inr (.inr (.inl q))
        grind
    mp := fun id b hb => by
      rcases inv id b hb with ⟨rfl, rfl⟩ | hb
      · grind[heap_objW]
      · obtain ⟨es, c, h1, h2⟩ := h.mp id b hb
        grind[heap_objW_lt]
    mpX := fun id b hb => by
      rcases inv id b hb with ⟨rfl, _⟩ | hb
      · refine ⟨?_, h.fresh, fun hp => ?_⟩
        · cases hb : g.blk s.bs.length with
          | none => exact hb
          | some b => have := h.blkN _ b hb; omega
        · have := (h.pendN _ hp).1; omega
      · exact h.mpX id b hb
    injM := fun id id' b hb hb' => by
      rcases inv id b hb with ⟨rfl, rfl⟩ | hb
      · rcases inv id' _ hb' with ⟨rfl, _⟩ | hb'
        · rfl
        · have := h.mpLt hb'; omega
      · rcases inv id' b hb' with ⟨_, e⟩ | hb'
        · have := h.mpLt hb; omega
        · exact h.injM id id' b hb hb'
    pendN := fun id hp => by
      obtain ⟨a, b, c⟩ := h.pendN id hp
      exact ⟨by grind, b, c⟩
    glob := fun gl row hr j c hj => by
      obtain ⟨v, h1, h2, h3⟩ := h.glob gl row hr j c hj
      exact ⟨v, h1, by rw [ext.cell _ _ h1]; omega, h3.mono ext.mono ext.cell⟩
    globN := fun gl row hr => by
      obtain ⟨h1, h2⟩ := h.globN gl row hr
      exact ⟨h1, by rw [ext.cell _ _ h1]; omega⟩ }
end Go.Tel
